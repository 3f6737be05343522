/- Rows: the document's example. -/
import Derived.Test.YtleofndjeekalaaS5
namespace Go.Proofs.Ytleofndjeekalaa
open Go Go.RowKit

deriving instance DecidableEq for RSt
theorem slc_snd (x y z t : Value) (sp : List Value) : Z.slc ([x, y, z, t] ++ sp) 2 2 = some [z, t] := by
  rw [Z.slc_mk (by simp)]; simp
def rA : RSt := ⟨[(⟨1, 5⟩, 1)], [(⟨1, 5⟩, true)], 1⟩
def rB : RSt := ⟨[(⟨1, 5⟩, 1), (⟨0, 5⟩, 2)], [(⟨1, 5⟩, true), (⟨0, 5⟩, true)], 2⟩
def rC : RSt := ⟨[(⟨1, 5⟩, 3), (⟨0, 5⟩, 2)], [(⟨1, 5⟩, true), (⟨0, 5⟩, true)], 3⟩
def rD : RSt := ⟨[(⟨1, 5⟩, 3)], [(⟨1, 5⟩, true), (⟨0, 5⟩, true)], 3⟩
theorem rA_is : RSt.z.put ⟨1, 5⟩ = rA := by decide +kernel
theorem rB_is : rA.put ⟨0, 5⟩ = rB := by decide +kernel
theorem rC_is : rB.put ⟨1, 5⟩ = rC := by decide +kernel
theorem rD_is : rC.drop ⟨0, 5⟩ = rD := by decide +kernel
theorem rC_ok : rC.ok := by rw [← rC_is, ← rB_is, ← rA_is]; exact RSt.put_ok (RSt.put_ok (RSt.put_ok RSt.z_ok (by decide)) (by decide)) (by decide)
section
variable {w0 : World} {rb : Nat} {r r' : RSt} {cl ck v : Int} {b : Bool}
theorem put_at (h : r.put (⟨cl, ck⟩ : Cell) = r') (hv : r.last + 1 = v) (h0 : 0 ≤ r.last) (h1 : r.last ≤ 1000) : Z.FnD Try.prog w0 11 [.pointer (some ⟨rb, 0, none⟩), .agg #[.int .i64 cl, .int .u32 ck]] [RowP rb r] (.int .i64 v) [RowP rb r'] := by subst h; subst hv; exact put_spec w0 rb r cl ck h0 h1
theorem drop_at (h : r.drop (⟨cl, ck⟩ : Cell) = r') (hv : (Z.mget (⟨cl, ck⟩ : Cell) r.ver).isSome = b) : Z.FnD Try.prog w0 13 [.pointer (some ⟨rb, 0, none⟩), .agg #[.int .i64 cl, .int .u32 ck]] [RowP rb r] (.bool b) [RowP rb r'] := by subst h; subst hv; exact drop_spec w0 rb r cl ck
theorem version_at (h : Z.mval (⟨cl, ck⟩ : Cell) 0 r.ver = v) (hv : (Z.mget (⟨cl, ck⟩ : Cell) r.ver).isSome = b) : Z.FnD Try.prog w0 14 [.pointer (some ⟨rb, 0, none⟩), .agg #[.int .i64 cl, .int .u32 ck]] [RowP rb r] (.tuple #[.int .i64 v, .bool b]) [RowP rb r] := by subst h; subst hv; exact version_spec w0 rb r cl ck
theorem seen_at (h : Z.mval (⟨cl, ck⟩ : Cell) false r.ev = b) : Z.FnD Try.prog w0 15 [.pointer (some ⟨rb, 0, none⟩), .agg #[.int .i64 cl, .int .u32 ck]] [RowP rb r] (.bool b) [RowP rb r] := by subst h; exact seen_spec w0 rb r cl ck
theorem live_at (h : (r.ver.length : Int) = v) : Z.FnD Try.prog w0 20 [.pointer (some ⟨rb, 0, none⟩)] [RowP rb r] (.int .i64 v) [RowP rb r] := by subst h; exact live_spec w0 rb r
theorem ever_at (h : (r.ev.length : Int) = v) : Z.FnD Try.prog w0 17 [.pointer (some ⟨rb, 0, none⟩)] [RowP rb r] (.int .i64 v) [RowP rb r] := by subst h; exact ever_spec w0 rb r
end
theorem ss9 : ssR rC.ver 9 = [(⟨0, 5⟩, 2), (⟨1, 5⟩, 3)] := by decide +kernel
def aX : Area := [[⟨0, 9⟩]]
theorem in9 : inA rC.ver aX = [2] := by decide +kernel
theorem aX_ro {w0 w : World} {R : List Z.SP} {b42 b43 : Nat} (h : Z.St w0 (Z.sep [Z.cl b42 63 [.int .u32 0, .int .u32 9], Z.cl b43 64 [.slice (some ⟨b42, 0, none⟩) 1 1]] :: R) w) : AreaRo w (.slice (some ⟨b43, 0, none⟩) 1 1) aX := by
  have h2 : Z.St w0 (Z.cl b42 63 [.int .u32 0, .int .u32 9] :: Z.cl b43 64 [.slice (some ⟨b42, 0, none⟩) 1 1] :: R) w := by
    obtain ⟨hb, h, hh, h1, h2, d, s1, s2, ho, l⟩ := h
    exact ⟨hb, h, hh, Z.sep_flat ⟨h1, h2, d, s1, s2, ho, l⟩⟩
  have r1 : Z.Ro w b42 0 [.int .u32 0, .int .u32 9] := Z.ro_of_cl (k := 2) h2 (by repeat (first | with_reducible exact Z.Take.here | apply Z.Take.there)) (by rw [Z.slc_mk (by simp)]; simp)
  have r2 : Z.Ro w b43 0 [.slice (some ⟨b42, 0, none⟩) 1 1] := Z.ro_of_cl (k := 1) h2 (by repeat (first | with_reducible exact Z.Take.here | apply Z.Take.there)) (by rw [Z.slc_mk (by simp)]; simp)
  refine ⟨_, 1, _, rfl, rfl, fun _ => ⟨_, _, rfl, r2⟩, fun i => ?_⟩
  match i with
  | 0 => exact ⟨_, 1, rfl, fun _ => ⟨_, _, rfl, r1⟩⟩
  | _ + 1 => exact SlRo.nil w
theorem aX_nb (i : Nat) : (aX.getD i []).length ≤ 140737488355328 := by
  match i with
  | 0 => decide
  | _ + 1 => simp [aX]

set_option maxHeartbeats 4000000 in
set_option maxRecDepth 100000 in
theorem alive_spec (w0 : World) : Z.FnD Try.prog w0 7 [] [] (.bool true) [] := by
  refine Z.Fn.fnD ?_
  refine Z.fn_enterM (n := 107) Try.func7 rfl (by rfl) (by rfl) (fun Fr => ?_)
  refine Z.j_app (by repeat (first | exact Z.App.nil | apply Z.App.cons)) ?_
  refine Z.j_seq ?_
  refine Z.j_region ?_
  refine Z.s_val (Z.pv_assign rfl) ?_
  refine Z.j_nil ?_
  refine Z.j_then ?_
  refine Z.j_seq ?_
  refine Z.j_region ?_
  refine Z.s_alloc Try.zeroValue29 (fun b1 => ?_)
  refine Z.j_nil ?_
  refine Z.j_then ?_
  refine Z.j_seq ?_
  refine Z.j_fold (A := RowP b1 RSt.z) (As := [Z.cl b1 29 [.map none, .map none, .int .i64 0]]) (by repeat (first | with_reducible exact Z.Takes.nil | (apply Z.Takes.cons; (repeat (first | with_reducible exact Z.Take.here | apply Z.Take.there))))) (fun _ H => rowP_none (r := RSt.z) rfl rfl H) ?_
  refine Z.j_region ?_
  refine Z.s_val (Z.pv_build rfl Try.zeroValue36 pl36 rfl) ?_
  refine Z.s_val (Z.pv_build rfl Try.zeroValue36 pl36 rfl) ?_
  refine Z.s_alloc Try.zeroValue36 (fun b2 => ?_)
  refine Z.s_alloc Try.zeroValue36 (fun b3 => ?_)
  refine Z.s_storeA rfl rfl Try.sizeOf36 rfl (by repeat (first | with_reducible exact Z.Upd.here | apply Z.Upd.there)) (by rfl) ?_
  refine Z.s_storeA rfl rfl Try.sizeOf36 rfl (by repeat (first | with_reducible exact Z.Upd.here | apply Z.Upd.there)) (by rfl) ?_
  refine Z.j_nil ?_
  refine Z.j_then ?_
  refine Z.j_seq ?_
  refine Z.j_drawC (vals := [_, _, _, _, _, _, _, _, _]) 9 [1, 3, 5] [.pin 0, .ch 0, .fl, .ch 1, .fl, .ch 2, .fl, .fl, .fl] [Z.cl b3 _ _, Z.cl b2 _ _] [_, _, _, _] (by kernel_rfl) (by kernel_rfl) (by kernel_rfl) rfl (by rfl) rfl (by repeat (first | with_reducible exact Z.Takes.nil | (apply Z.Takes.cons; (repeat (first | with_reducible exact Z.Take.here | apply Z.Take.there))))) (Z.hc_cons (Z.hk_pin (by rfl) (Z.pv_loadA (by rfl) (by repeat (first | with_reducible exact Z.Take.here | apply Z.Take.there)) Try.isAgg36 (by exact Try.sizeOf36) (by rfl))) (Z.hc_cons (Z.hk_call (by rfl) (by rfl) (by rfl) (by rfl) isFn11 (by repeat (first | with_reducible exact Z.Takes.nil | (apply Z.Takes.cons; (repeat (first | with_reducible exact Z.Take.here | apply Z.Take.there))))) (by repeat (first | exact Z.App.nil | apply Z.App.cons)) (put_at (r := RSt.z) (r' := rA) (v := 1) rA_is (by decide) (by decide) (by decide)) (by rfl)) (Z.hc_cons (Z.hk_fl (Z.pv_loadA (by rfl) (by repeat (first | with_reducible exact Z.Take.here | apply Z.Take.there)) Try.isAgg36 (by exact Try.sizeOf36) (by rfl))) (Z.hc_cons (Z.hk_call (by rfl) (by rfl) (by rfl) (by rfl) isFn11 (by repeat (first | with_reducible exact Z.Takes.nil | (apply Z.Takes.cons; (repeat (first | with_reducible exact Z.Take.here | apply Z.Take.there))))) (by repeat (first | exact Z.App.nil | apply Z.App.cons)) (put_at (r := rA) (r' := rB) (v := 2) rB_is (by decide) (by decide) (by decide)) (by rfl)) (Z.hc_cons (Z.hk_fl (Z.pv_loadA (by rfl) (by repeat (first | with_reducible exact Z.Take.here | apply Z.Take.there)) Try.isAgg36 (by exact Try.sizeOf36) (by rfl))) (Z.hc_cons (Z.hk_call (by rfl) (by rfl) (by rfl) (by rfl) isFn11 (by repeat (first | with_reducible exact Z.Takes.nil | (apply Z.Takes.cons; (repeat (first | with_reducible exact Z.Take.here | apply Z.Take.there))))) (by repeat (first | exact Z.App.nil | apply Z.App.cons)) (put_at (r := rB) (r' := rC) (v := 3) rC_is (by decide) (by decide) (by decide)) (by rfl)) (Z.hc_cons (Z.hk_fl (Z.pv_assign (by rfl))) (Z.hc_cons (Z.hk_fl (Z.pv_assign (by rfl))) (Z.hc_cons (Z.hk_fl (Z.pv_assign (by rfl))) Z.hc_nil))))))))) (Z.Holds.cons (by repeat (first | with_reducible exact Z.Takes.nil | (apply Z.Takes.cons; (repeat (first | with_reducible exact Z.Take.here | apply Z.Take.there))))) (Z.Holds.cons (by repeat (first | with_reducible exact Z.Takes.nil | (apply Z.Takes.cons; (repeat (first | with_reducible exact Z.Take.here | apply Z.Take.there))))) (Z.Holds.cons (by repeat (first | with_reducible exact Z.Takes.nil | (apply Z.Takes.cons; (repeat (first | with_reducible exact Z.Take.here | apply Z.Take.there))))) (Z.Holds.cons (by repeat (first | with_reducible exact Z.Takes.nil | (apply Z.Takes.cons; (repeat (first | with_reducible exact Z.Take.here | apply Z.Take.there))))) Z.Holds.nil)))) rfl rfl ?_
  refine Z.j_nil ?_
  refine Z.j_then ?_
  refine Z.j_seq ?_
  refine Z.j_seq ?_
  refine Z.j_region ?_
  refine Z.s_val (Z.pv_move rfl) ?_
  refine Z.s_val (Z.pv_neq rfl rfl) ?_
  refine Z.s_val (Z.pv_move rfl) ?_
  refine Z.s_is 24 rfl (show _ = Value.bool false from rfl) ?_
  refine Z.s_val (Z.pv_move rfl) ?_
  refine Z.s_val (Z.pv_neq rfl rfl) ?_
  refine Z.s_val (Z.pv_pick rfl rfl) ?_
  refine Z.s_val (Z.pv_move rfl) ?_
  refine Z.s_is 28 rfl (show _ = Value.bool false from rfl) ?_
  refine Z.s_val (Z.pv_move rfl) ?_
  refine Z.s_val (Z.pv_neq rfl rfl) ?_
  refine Z.s_val (Z.pv_pick rfl rfl) ?_
  refine Z.j_nil ?_
  refine Z.j_then ?_
  refine Z.j_cond rfl (fun hc31 => ?_) (fun hc31 => ?_)
  · exfalso; first | (cases hc31; done) | (simp at hc31; done) | (simp at hc31; omega) | (replace hc31 := of_decide_eq_true hc31; contradiction) | (replace hc31 := of_decide_eq_false hc31; contradiction)
  · try (with_reducible first | replace hc31 := of_decide_eq_true hc31 | replace hc31 := of_decide_eq_false hc31 | replace hc31 := Z.nd_true hc31 | replace hc31 := Z.nd_false hc31 | replace hc31 := Z.nn_true hc31 | replace hc31 := Z.nn_false hc31 | replace hc31 := Z.nb_true hc31 | replace hc31 := Z.nb_false hc31)
    first
    | (exfalso; first | (cases hc31; done) | omega)
    | skip
      refine Z.j_skip ?_
      refine Z.j_then ?_
      refine Z.j_seq ?_
      refine Z.j_region ?_
      refine Z.s_val (Z.pv_loadA rfl (by repeat (first | with_reducible exact Z.Take.here | apply Z.Take.there)) Try.isAgg36 Try.sizeOf36 (by rfl)) ?_
      refine Z.s_callD rfl rfl rfl isFn14 (by repeat (first | with_reducible exact Z.Takes.nil | (apply Z.Takes.cons; (repeat (first | with_reducible exact Z.Take.here | apply Z.Take.there))))) (by repeat (first | exact Z.App.nil | apply Z.App.cons)) (version_at (r := rC) (v := 3) (b := true) (by decide +kernel) (by decide +kernel)) ?_
      refine Z.s_val (Z.pv_move rfl) ?_
      refine Z.s_val (Z.pv_extract rfl rfl) ?_
      refine Z.s_val (Z.pv_extract rfl rfl) ?_
      refine Z.s_val (Z.pv_assign rfl) ?_
      refine Z.s_val (Z.pv_assign rfl) ?_
      refine Z.j_nil ?_
      refine Z.j_then ?_
      refine Z.j_seq ?_
      have hr := rC_ok
      refine Z.j_region ?_
      refine Z.s_call rfl rfl rfl isFn19 (by repeat (first | with_reducible exact Z.Takes.nil | (apply Z.Takes.cons; (repeat (first | with_reducible exact Z.Take.here | apply Z.Take.there))))) (cells_spec _ _ rC 9 hr) ?_
      rintro _ _ ⟨vx, vy, rfl, rfl⟩
      refine Z.j_app (by repeat (first | exact Z.App.nil | apply Z.App.cons)) ?_
      refine Z.s_val (Z.pv_move rfl) ?_
      refine Z.s_val (Z.pv_extract rfl rfl) ?_
      refine Z.s_val (Z.pv_extract rfl rfl) ?_
      refine Z.s_val (Z.pv_assign rfl) ?_
      refine Z.s_val (Z.pv_assign rfl) ?_
      refine Z.j_nil ?_
      refine Z.j_then ?_
      refine Z.j_seq ?_
      have hr := rC_ok
      rw [ss9]
      refine Z.j_unown (T := 36) (k := 2) (v := vx) (m := 2) (c := [.int .i64 0, .int .u32 5, .int .i64 1, .int .u32 5]) (by repeat (first | exact Z.Take.here | apply Z.Take.there)) (fun e1 e2 e3 => by cases e2) (fun nb1 cap1 sp1 d1 d2 d3 => ?_)
      refine Z.j_unown (T := 3) (k := 1) (v := vy) (m := 2) (c := [.int .i64 2, .int .i64 3]) (by repeat (first | exact Z.Take.here | apply Z.Take.there)) (fun e1 e2 e3 => by cases e2) (fun nb2 cap2 sp2 g1 g2 g3 => ?_)
      subst d1
      subst g1
      refine Z.j_region ?_
      refine Z.s_val (Z.pv_build rfl Try.zeroValue63 pl63 rfl) ?_
      refine Z.s_buildSlice rfl Try.underlying64 Try.zeroValue63 Try.sizeOf63 rfl rfl rfl rfl (fun b42 => ?_)
      refine Z.s_buildSlice rfl Try.underlying23 Try.zeroValue64 Try.sizeOf64 rfl rfl rfl rfl (fun b43 => ?_)
      refine Z.j_fold (A := Z.sep [Z.cl b42 63 [.int .u32 0, .int .u32 9], Z.cl b43 64 [.slice (some ⟨b42, 0, none⟩) 1 1]]) (As := [Z.cl b42 63 [.int .u32 0, .int .u32 9], Z.cl b43 64 [.slice (some ⟨b42, 0, none⟩) 1 1]]) (by repeat (first | with_reducible exact Z.Takes.nil | (apply Z.Takes.cons; (repeat (first | exact Z.Take.here | apply Z.Take.there))) | exact Z.Takes.nil)) (fun _ H => H) ?_
      refine Z.s_call rfl rfl rfl isFn22 (by repeat (first | with_reducible exact Z.Takes.nil | (apply Z.Takes.cons; (repeat (first | with_reducible exact Z.Take.here | apply Z.Take.there))))) (in_spec _ _ rC hr _ aX (Z.sep [Z.cl b42 63 [.int .u32 0, .int .u32 9], Z.cl b43 64 [.slice (some ⟨b42, 0, none⟩) 1 1]]) aX_nb (fun w R h => aX_ro h)) ?_
      rintro v44 _ rfl
      refine Z.j_app (by repeat (first | exact Z.App.nil | apply Z.App.cons)) ?_
      refine Z.s_val (Z.pv_assign rfl) ?_
      refine Z.j_nil ?_
      refine Z.j_then ?_
      refine Z.j_seq ?_
      rw [in9]
      refine Z.j_unown (T := 3) (k := 1) (v := v44) (m := 1) (c := [.int .i64 2]) (by repeat (first | exact Z.Take.here | apply Z.Take.there)) (fun e1 e2 e3 => by cases e2) (fun nb3 cap3 sp3 f1 f2 f3 => ?_)
      subst f1
      refine Z.j_drawC (vals := [_, _, _, _, _, _]) 6 [1, 3] [.pin 0, .ch 0, .fl, .ch 1, .fl, .fl] [Z.cl b3 _ _] [_, _, _] (by kernel_rfl) (by kernel_rfl) (by kernel_rfl) rfl (by rfl) rfl (by repeat (first | with_reducible exact Z.Takes.nil | (apply Z.Takes.cons; (repeat (first | with_reducible exact Z.Take.here | apply Z.Take.there))))) (Z.hc_cons (Z.hk_pin (by rfl) (Z.pv_loadA (by rfl) (by repeat (first | with_reducible exact Z.Take.here | apply Z.Take.there)) Try.isAgg36 (by exact Try.sizeOf36) (by rfl))) (Z.hc_cons (Z.hk_call (by rfl) (by rfl) (by rfl) (by rfl) isFn13 (by repeat (first | with_reducible exact Z.Takes.nil | (apply Z.Takes.cons; (repeat (first | with_reducible exact Z.Take.here | apply Z.Take.there))))) (by repeat (first | exact Z.App.nil | apply Z.App.cons)) (drop_at (r := rC) (r' := rD) (b := true) rD_is (by decide +kernel)) (by rfl)) (Z.hc_cons (Z.hk_fl (Z.pv_loadA (by rfl) (by repeat (first | with_reducible exact Z.Take.here | apply Z.Take.there)) Try.isAgg36 (by exact Try.sizeOf36) (by rfl))) (Z.hc_cons (Z.hk_call (by rfl) (by rfl) (by rfl) (by rfl) isFn13 (by repeat (first | with_reducible exact Z.Takes.nil | (apply Z.Takes.cons; (repeat (first | with_reducible exact Z.Take.here | apply Z.Take.there))))) (by repeat (first | exact Z.App.nil | apply Z.App.cons)) (drop_at (r := rD) (r' := rD) (b := false) (by decide +kernel) (by decide +kernel)) (by rfl)) (Z.hc_cons (Z.hk_fl (Z.pv_assign (by rfl))) (Z.hc_cons (Z.hk_fl (Z.pv_assign (by rfl))) Z.hc_nil)))))) (Z.Holds.cons (by repeat (first | with_reducible exact Z.Takes.nil | (apply Z.Takes.cons; (repeat (first | with_reducible exact Z.Take.here | apply Z.Take.there))))) (Z.Holds.cons (by repeat (first | with_reducible exact Z.Takes.nil | (apply Z.Takes.cons; (repeat (first | with_reducible exact Z.Take.here | apply Z.Take.there))))) (Z.Holds.cons (by repeat (first | with_reducible exact Z.Takes.nil | (apply Z.Takes.cons; (repeat (first | with_reducible exact Z.Take.here | apply Z.Take.there))))) Z.Holds.nil))) rfl rfl ?_
      refine Z.j_nil ?_
      refine Z.j_then ?_
      refine Z.j_seq ?_
      refine Z.j_draw (vals := [_, _, _, _, _, _, _, _, _, _, _, _, _, _, _, _, _, _, _, _, _, _, _, _, _, _, _, _, _, _, _, _, _, _, _, _, _, _, _, _, _, _, _, _, _, _, _, _, _, _, _, _, _, _, _, _, _, _, _]) 59 (by kernel_rfl) (by kernel_rfl) rfl (by rfl) (Z.heads_cons (Z.hq_val (Z.pv_move (by rfl))) (Z.heads_cons (Z.hq_val (Z.pv_eql (by rfl) (by rfl))) (Z.heads_cons (Z.hq_val (Z.pv_move (by rfl))) (Z.heads_cons (Z.hq_val (Z.pv_move (by rfl))) (Z.heads_cons (Z.hq_val (Z.pv_pick (by rfl) (by rfl))) (Z.heads_cons (Z.hq_val (Z.pv_move (by rfl))) (Z.heads_cons (Z.hq_val (Z.pv_move (by rfl))) (Z.heads_cons (Z.hq_val (Z.pv_len (by rfl) Try.underlying30)) (Z.heads_cons (Z.hq_val (Z.pv_eql (by rfl) (by rfl))) (Z.heads_cons (Z.hq_val (Z.pv_pick (by rfl) (by rfl))) (Z.heads_cons (Z.hq_val (Z.pv_move (by rfl))) (Z.heads_cons (Z.hq_val (Z.pv_move (by rfl))) (Z.heads_cons (Z.hq_val (Z.pv_indexAddr (by rfl) (by rfl) Try.underlying30 (by exact Try.sizeOf36) (by decide) (by rfl))) (Z.heads_cons (Z.hq_val (Z.pv_loadA (by rfl) (by repeat (first | with_reducible exact Z.Take.here | apply Z.Take.there)) Try.isAgg36 (by exact Try.sizeOf36) (slc_snd _ _ _ _ _))) (Z.heads_cons (Z.hq_val (Z.pv_loadA (by rfl) (by repeat (first | with_reducible exact Z.Take.here | apply Z.Take.there)) Try.isAgg36 (by exact Try.sizeOf36) (by rfl))) (Z.heads_cons (Z.hq_val (Z.pv_eqA (by rfl) (by rfl) Try.eqGuardType36 Try.underlying36 Try.stoodInHeld36 (cells_eq _ _ ⟨_, _⟩) (by rfl))) (Z.heads_cons (Z.hq_val (Z.pv_pick (by rfl) (by rfl))) (Z.heads_cons (Z.hq_val (Z.pv_move (by rfl))) (Z.heads_cons (Z.hq_val (Z.pv_move (by rfl))) (Z.heads_cons (Z.hq_val (Z.pv_indexAddr (by rfl) (by rfl) Try.underlying48 (by exact Try.sizeOf3) (by omega) (by rfl))) (Z.heads_cons (Z.hq_val (Z.pv_load1 (by rfl) (by repeat (first | with_reducible exact Z.Take.here | apply Z.Take.there)) Try.isAgg3 (by rfl))) (Z.heads_cons (Z.hq_val (Z.pv_eql (by rfl) (by rfl))) (Z.heads_cons (Z.hq_val (Z.pv_pick (by rfl) (by rfl))) (Z.heads_cons (Z.hq_val (Z.pv_move (by rfl))) (Z.heads_cons (Z.hq_val (Z.pv_move (by rfl))) (Z.heads_cons (Z.hq_val (Z.pv_len (by rfl) Try.underlying48)) (Z.heads_cons (Z.hq_val (Z.pv_eql (by rfl) (by rfl))) (Z.heads_cons (Z.hq_val (Z.pv_pick (by rfl) (by rfl))) (Z.heads_cons (Z.hq_val (Z.pv_move (by rfl))) (Z.heads_cons (Z.hq_val (Z.pv_move (by rfl))) (Z.heads_cons (Z.hq_val (Z.pv_indexAddr (by rfl) (by rfl) Try.underlying48 (by exact Try.sizeOf3) (by omega) (by rfl))) (Z.heads_cons (Z.hq_val (Z.pv_load1 (by rfl) (by repeat (first | with_reducible exact Z.Take.here | apply Z.Take.there)) Try.isAgg3 (by rfl))) (Z.heads_cons (Z.hq_val (Z.pv_eql (by rfl) (by rfl))) (Z.heads_cons (Z.hq_val (Z.pv_pick (by rfl) (by rfl))) (Z.heads_cons (Z.hq_val (Z.pv_move (by rfl))) (Z.heads_cons (Z.hq_val (Z.pv_move (by rfl))) (Z.heads_cons (Z.hq_val (Z.pv_pick (by rfl) (by rfl))) (Z.heads_cons (Z.hq_val (Z.pv_move (by rfl))) (Z.heads_cons (Z.hq_val (Z.pv_move (by rfl))) (Z.heads_cons (Z.hq_val (Z.pv_not (by rfl))) (Z.heads_cons (Z.hq_val (Z.pv_pick (by rfl) (by rfl))) (Z.heads_cons (Z.hq_val (Z.pv_move (by rfl))) (Z.heads_cons (Z.hq_val (Z.pv_loadA (by rfl) (by repeat (first | with_reducible exact Z.Take.here | apply Z.Take.there)) Try.isAgg36 (by exact Try.sizeOf36) (by rfl))) (Z.heads_cons (Z.hq_callD (by rfl) (by rfl) (by rfl) isFn15 (by repeat (first | with_reducible exact Z.Takes.nil | (apply Z.Takes.cons; (repeat (first | with_reducible exact Z.Take.here | apply Z.Take.there))))) (by repeat (first | with_reducible exact Z.Takes.nil | (apply Z.Takes.cons; (repeat (first | with_reducible exact Z.Take.here | apply Z.Take.there))))) (seen_at (r := rD) (b := true) (by decide +kernel))) (Z.heads_cons (Z.hq_val (Z.pv_pick (by rfl) (by rfl))) (Z.heads_cons (Z.hq_val (Z.pv_move (by rfl))) (Z.heads_cons (Z.hq_val (Z.pv_build (by rfl) Try.zeroValue36 pl36 (by rfl))) (Z.heads_cons (Z.hq_callD (by rfl) (by rfl) (by rfl) isFn15 (by repeat (first | with_reducible exact Z.Takes.nil | (apply Z.Takes.cons; (repeat (first | with_reducible exact Z.Take.here | apply Z.Take.there))))) (by repeat (first | with_reducible exact Z.Takes.nil | (apply Z.Takes.cons; (repeat (first | with_reducible exact Z.Take.here | apply Z.Take.there))))) (seen_at (r := rD) (b := false) (by decide +kernel))) (Z.heads_cons (Z.hq_val (Z.pv_not (by rfl))) (Z.heads_cons (Z.hq_val (Z.pv_pick (by rfl) (by rfl))) (Z.heads_cons (Z.hq_val (Z.pv_move (by rfl))) (Z.heads_cons (Z.hq_callD (by rfl) (by rfl) (by rfl) isFn20 (by repeat (first | with_reducible exact Z.Takes.nil | (apply Z.Takes.cons; (repeat (first | with_reducible exact Z.Take.here | apply Z.Take.there))))) (by repeat (first | with_reducible exact Z.Takes.nil | (apply Z.Takes.cons; (repeat (first | with_reducible exact Z.Take.here | apply Z.Take.there))))) (live_at (r := rD) (v := 1) (by rfl))) (Z.heads_cons (Z.hq_val (Z.pv_eql (by rfl) (by rfl))) (Z.heads_cons (Z.hq_val (Z.pv_pick (by rfl) (by rfl))) (Z.heads_cons (Z.hq_val (Z.pv_move (by rfl))) (Z.heads_cons (Z.hq_callD (by rfl) (by rfl) (by rfl) isFn17 (by repeat (first | with_reducible exact Z.Takes.nil | (apply Z.Takes.cons; (repeat (first | with_reducible exact Z.Take.here | apply Z.Take.there))))) (by repeat (first | with_reducible exact Z.Takes.nil | (apply Z.Takes.cons; (repeat (first | with_reducible exact Z.Take.here | apply Z.Take.there))))) (ever_at (r := rD) (v := 2) (by rfl))) (Z.heads_cons (Z.hq_val (Z.pv_eql (by rfl) (by rfl))) (Z.heads_cons (Z.hq_val (Z.pv_pick (by rfl) (by rfl))) (Z.heads_cons (Z.hq_val (Z.pv_assign (by rfl))) Z.heads_nil))))))))))))))))))))))))))))))))))))))))))))))))))))))))))) ?_
      refine Z.j_nil ?_
      refine Z.j_then ?_
      refine Z.j_ret ?_
      refine Z.j_doneM_ret (bs := []) .nil (Z.rv1 (Z.rv_tmp (t := 0) rfl)) ?_
      exact Z.post_of ⟨rfl, rfl⟩ (by repeat (first | with_reducible exact Z.Takes.nil | (apply Z.Takes.cons; (repeat (first | with_reducible exact Z.Take.here | apply Z.Take.there))))) (by repeat (first | with_reducible exact Z.Drop.nil | apply Z.Drop.cons))

end Go.Proofs.Ytleofndjeekalaa
