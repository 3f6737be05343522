/- Rows: RowsPlays. -/
import Derived.Test.YtleofndjeekalaaSB
import Derived.Test.YtleofndjeekalaaC8
namespace Go.Proofs.Ytleofndjeekalaa
open Go Go.RowKit
theorem pl33 : Z.Pl Try.prog 33 [(0, 1), (1, 1)] := ⟨_, Try.underlying33, fun w => by simp [Try.sizeOf30, Try.sizeOf31]⟩


theorem xt_put {os : List OpR} {i : Nat} (h : (os.getD i OpR.z).kd = 0 ∨ (os.getD i OpR.z).kd = 1) : (xt os i).put ⟨(os.getD i OpR.z).l, (os.getD i OpR.z).k⟩ = xt os (i + 1) := by
  simp only [xt, stepX, if_pos h]; rfl
theorem xt_drop {os : List OpR} {i : Nat} (h : ¬ ((os.getD i OpR.z).kd = 0 ∨ (os.getD i OpR.z).kd = 1)) (h2 : (os.getD i OpR.z).kd = 2) : (xt os i).drop ⟨(os.getD i OpR.z).l, (os.getD i OpR.z).k⟩ = xt os (i + 1) := by
  simp only [xt, stepX, if_neg h, if_pos h2]; rfl
theorem xt_same {os : List OpR} {i : Nat} (h : ¬ ((os.getD i OpR.z).kd = 0 ∨ (os.getD i OpR.z).kd = 1)) (h2 : ¬ (os.getD i OpR.z).kd = 2) : xt os i = xt os (i + 1) := by
  simp only [xt, stepX, if_neg h, if_neg h2]
theorem put_len (q : XSt) (c : Cell) : (q.put c).ps.length = q.ps.length + 1 := by simp [XSt.put]
theorem same_b (b : Bool) : Value.bool (b == b) = .bool true := by cases b <;> rfl
theorem nsame_b (b : Bool) : Value.bool (!(b == b)) = .bool false := by cases b <;> rfl
theorem nsame_i (b : Int) : Value.bool (!decide (b = b)) = .bool false := by simp

set_option maxHeartbeats 4000000 in
set_option maxRecDepth 100000 in
theorem plays_law (w0 : World) (p : Option Addr) (n cap : Nat) (os : List OpR) (hn : os.length = n) (hro : 0 < n → ∃ b o, p = some ⟨b, o, none⟩ ∧ Z.Ro w0 b o (os.flatMap OpR.c)) (hos : ∀ o ∈ os, o.Ok) (v : Value) (a : Area) (hA : AreaRo w0 v a) (hao : AreaOk a) (most : Int) : Z.FnD Try.prog w0 3 [.slice p n cap, v, .int .i64 most] [] (.bool true) [] := by
  refine Z.Fn.fnD ?_
  refine Z.fn_enterM (n := 186) Try.func3 rfl (by rfl) (by rfl) (fun Fr => ?_)
  refine Z.j_app (by repeat (first | exact Z.App.nil | apply Z.App.cons)) ?_
  refine Z.j_seq ?_
  refine Z.j_region ?_
  refine Z.s_val (Z.pv_assign rfl) ?_
  refine Z.j_nil ?_
  refine Z.j_then ?_
  refine Z.j_seq ?_
  refine Z.j_seq ?_
  refine Z.j_region ?_
  refine Z.s_callD rfl rfl rfl isFn7 (by repeat (first | with_reducible exact Z.Takes.nil | (apply Z.Takes.cons; (repeat (first | with_reducible exact Z.Take.here | apply Z.Take.there))))) (by repeat (first | exact Z.App.nil | apply Z.App.cons)) (alive_spec _) ?_
  refine Z.s_val (Z.pv_not rfl) ?_
  refine Z.j_nil ?_
  refine Z.j_then ?_
  refine Z.j_cond rfl (fun hc24 => ?_) (fun hc24 => ?_)
  · exfalso; first | (cases hc24; done) | (simp at hc24; done) | (simp at hc24; omega) | (replace hc24 := of_decide_eq_true hc24; contradiction) | (replace hc24 := of_decide_eq_false hc24; contradiction)
  · try (with_reducible first | replace hc24 := of_decide_eq_true hc24 | replace hc24 := of_decide_eq_false hc24 | replace hc24 := Z.nd_true hc24 | replace hc24 := Z.nd_false hc24 | replace hc24 := Z.nn_true hc24 | replace hc24 := Z.nn_false hc24 | replace hc24 := Z.nb_true hc24 | replace hc24 := Z.nb_false hc24)
    first
    | (exfalso; first | (cases hc24; done) | omega)
    | skip
      refine Z.j_skip ?_
      refine Z.j_then ?_
      refine Z.j_seq ?_
      refine Z.j_seq ?_
      refine Z.j_region ?_
      refine Z.s_val (Z.pv_move rfl) ?_
      refine Z.s_val (Z.pv_len rfl Try.underlying22) ?_
      refine Z.s_val (Z.pv_gtr rfl rfl) ?_
      refine Z.s_val (Z.pv_move rfl) ?_
      refine Z.s_split 28 rfl (fun hg28 => ?_) (fun hg28 => ?_)
      · try (with_reducible first | replace hg28 := of_decide_eq_true hg28 | replace hg28 := of_decide_eq_false hg28 | replace hg28 := Z.nd_true hg28 | replace hg28 := Z.nd_false hg28 | replace hg28 := Z.nn_true hg28 | replace hg28 := Z.nn_false hg28 | replace hg28 := Z.nb_true hg28 | replace hg28 := Z.nb_false hg28)
        first
        | (exfalso; first | (cases hg28; done) | omega)
        | skip
          refine Z.s_skip ?_
          refine Z.s_skip ?_
          refine Z.s_skip ?_
          refine Z.s_val (Z.pv_pick rfl rfl) ?_
          refine Z.j_nil ?_
          refine Z.j_then ?_
          refine Z.j_cond rfl (fun hc32 => ?_) (fun hc32 => ?_)
          · try (with_reducible first | replace hc32 := of_decide_eq_true hc32 | replace hc32 := of_decide_eq_false hc32 | replace hc32 := Z.nd_true hc32 | replace hc32 := Z.nd_false hc32 | replace hc32 := Z.nn_true hc32 | replace hc32 := Z.nn_false hc32 | replace hc32 := Z.nb_true hc32 | replace hc32 := Z.nb_false hc32)
            first
            | (exfalso; first | (cases hc32; done) | omega)
            | skip
              refine Z.j_seq ?_
              refine Z.j_region ?_
              refine Z.s_val (Z.pv_assign rfl) ?_
              refine Z.j_nil ?_
              refine Z.j_then ?_
              refine Z.j_ret ?_
              refine Z.j_then_ret ?_
              refine Z.j_doneM_ret (bs := []) .nil (Z.rv1 (Z.rv_tmp (t := 6) rfl)) ?_
              exact Z.post_of ⟨rfl, rfl⟩ (by repeat (first | with_reducible exact Z.Takes.nil | (apply Z.Takes.cons; (repeat (first | with_reducible exact Z.Take.here | apply Z.Take.there))))) (by repeat (first | with_reducible exact Z.Drop.nil | apply Z.Drop.cons))
          · try (with_reducible first | replace hc32 := of_decide_eq_true hc32 | replace hc32 := of_decide_eq_false hc32 | replace hc32 := Z.nd_true hc32 | replace hc32 := Z.nd_false hc32 | replace hc32 := Z.nn_true hc32 | replace hc32 := Z.nn_false hc32 | replace hc32 := Z.nb_true hc32 | replace hc32 := Z.nb_false hc32)
            first
            | (exfalso; first | (cases hc32; done) | omega)
            | skip
              have hfew : fewA a = true := by first | exact hc32 | simpa using hc32
              have hn60 : n ≤ 60 := by omega
              refine Z.j_skip ?_
              refine Z.j_then ?_
              refine Z.j_seq ?_
              refine Z.j_region ?_
              refine Z.s_alloc Try.zeroValue29 (fun b7 => ?_)
              refine Z.j_nil ?_
              refine Z.j_then ?_
              refine Z.j_seq ?_
              refine Z.j_region ?_
              refine Z.s_val (Z.pv_build rfl Try.zeroValue33 pl33 rfl) ?_
              refine Z.s_alloc Try.zeroValue33 (fun b8 => ?_)
              refine Z.s_storeA rfl rfl Try.sizeOf33 rfl (by repeat (first | with_reducible exact Z.Upd.here | apply Z.Upd.there)) (by rfl) ?_
              refine Z.j_nil ?_
              refine Z.j_then ?_
              refine Z.j_seq ?_
              refine Z.j_seq ?_
              refine Z.j_fold (A := RowP b7 (rt os 0)) (As := [Z.cl b7 29 [.map none, .map none, .int .i64 0]]) (by repeat (first | with_reducible exact Z.Takes.nil | (apply Z.Takes.cons; (repeat (first | with_reducible exact Z.Take.here | apply Z.Take.there))))) (fun _ H => rowP_none (r := RSt.z) rfl rfl H) ?_
              refine Z.J.own_nil 36 2 ?_
              refine Z.j_cast (A := Z.Own 36 2 (.slice none 0 0) 0 []) (B := OC (.slice none 0 0) (xt os 0)) (by repeat (first | with_reducible exact Z.Take.here | apply Z.Take.there)) rfl ?_
              refine Z.J.own_nil 4 1 ?_
              refine Z.j_cast (A := Z.Own 4 1 (.slice none 0 0) 0 []) (B := OB (.slice none 0 0) (xt os 0)) (by repeat (first | with_reducible exact Z.Take.here | apply Z.Take.there)) rfl ?_
              refine Z.j_region ?_
              refine Z.s_val (Z.pv_move rfl) ?_
              refine Z.s_val (Z.pv_len rfl Try.underlying22) ?_
              refine Z.s_val (Z.pv_move rfl) ?_
              refine Z.j_nil ?_
              refine Z.j_then ?_
              refine Z.j_block ?_
              refine Z.j_initF (E' := [(0, .slice p n cap), (1, v), (2, .int .i64 most), (7, .pointer (some ⟨b7, 0, none⟩)), (8, .pointer (some ⟨b8, 0, none⟩)), (34, .slice p n cap), (35, .int .i64 n), (36, .int .i64 ((0) : Nat))]) (As := [RowP b7 (rt os (0)), Z.cl b8 33 [(.slice none 0 0), (.slice none 0 0)], OC (.slice none 0 0) (xt os (0)), OB (.slice none 0 0) (xt os (0))]) (Fr := Fr) (by repeat (first | exact trivial | refine ⟨rfl, ?_⟩)) (by repeat (first | with_reducible exact Z.Takes.nil | (apply Z.Takes.cons; (repeat (first | with_reducible exact Z.Take.here | apply Z.Take.there))))) (by repeat (first | with_reducible exact Z.Drop.nil | apply Z.Drop.cons)) ?_
              refine Z.j_loop (X := { x : (Nat) × (Value) × (Value) // (x.1) ≤ n }) (fun (x : { x : (Nat) × (Value) × (Value) // (x.1) ≤ n }) => [(0, .slice p n cap), (1, v), (2, .int .i64 most), (7, .pointer (some ⟨b7, 0, none⟩)), (8, .pointer (some ⟨b8, 0, none⟩)), (34, .slice p n cap), (35, .int .i64 n), (36, .int .i64 ((x.1.1) : Nat))]) (fun x => (fun (x : { x : (Nat) × (Value) × (Value) // (x.1) ≤ n }) => [RowP b7 (rt os (x.1.1)), Z.cl b8 33 [(x.1.2.1), (x.1.2.2)], OC (x.1.2.1) (xt os (x.1.1)), OB (x.1.2.2) (xt os (x.1.1))]) x ++ Fr) (fun (x : { x : (Nat) × (Value) × (Value) // (x.1) ≤ n }) => n - (x.1.1)) ⟨(0, .slice none 0 0, .slice none 0 0), by omega⟩ (fun x => ?_)
              obtain ⟨⟨i, vp, vl⟩, hinv⟩ := x
              have hinv' : i ≤ n := hinv
              have hi := hinv'
              show Z.J _ _ _ ([(0, .slice p n cap), (1, v), (2, .int .i64 most), (7, .pointer (some ⟨b7, 0, none⟩)), (8, .pointer (some ⟨b8, 0, none⟩)), (34, .slice p n cap), (35, .int .i64 n), (36, .int .i64 (i : Nat))]) ([RowP b7 (rt os i), Z.cl b8 33 [vp, vl], OC vp (xt os i), OB vl (xt os i)] ++ Fr) _
              refine Z.j_app (by repeat (first | exact Z.App.nil | apply Z.App.cons)) ?_
              refine Z.j_seq ?_
              refine Z.j_region ?_
              refine Z.s_val (Z.pv_lss rfl rfl) ?_
              refine Z.j_nil ?_
              refine Z.j_then ?_
              refine Z.j_seq ?_
              refine Z.j_cond rfl (fun hc37 => ?_) (fun hc37 => ?_)
              · try (with_reducible first | replace hc37 := of_decide_eq_true hc37 | replace hc37 := of_decide_eq_false hc37 | replace hc37 := Z.nd_true hc37 | replace hc37 := Z.nd_false hc37 | replace hc37 := Z.nn_true hc37 | replace hc37 := Z.nn_false hc37 | replace hc37 := Z.nb_true hc37 | replace hc37 := Z.nb_false hc37)
                first
                | (exfalso; first | (cases hc37; done) | omega)
                | skip
                  obtain ⟨b1, o1, e1, hr1⟩ := hro (by omega)
                  refine Z.j_skip ?_
                  refine Z.j_then ?_
                  refine Z.j_seq ?_
                  refine Z.j_block ?_
                  refine Z.j_seq ?_
                  refine Z.j_region ?_
                  refine Z.s_val (Z.pv_indexAddr (o' := o1 + i * 3) (b := b1) (o := o1) (len := n) (cap := cap) (by show some (Value.slice p n cap) = _; rw [e1]) rfl Try.underlying22 Try.sizeOf38 (by omega) (by simp)) ?_
                  refine Z.s_val (Z.pv_loadAr (b := b1) (o := o1) (j := i * 3) rfl hr1 rfl Try.isAgg38 Try.sizeOf38 (slc_op (by omega))) ?_
                  refine Z.s_alloc Try.zeroValue38 (fun b10 => ?_)
                  refine Z.s_storeA rfl rfl Try.sizeOf38 rfl (by repeat (first | with_reducible exact Z.Upd.here | apply Z.Upd.there)) (by rfl) ?_
                  refine Z.j_nil ?_
                  refine Z.j_then ?_
                  refine Z.j_seq ?_
                  obtain ⟨hok, hla, hKB⟩ := rt_ok hos i (by omega)
                  have hR := xt_rel hos i (by omega)
                  have hl0 := hok.l0
                  have hps : (xt os i).ps.length ≤ 60 := by have := hR.last; omega
                  refine Z.j_region ?_
                  refine Z.s_val (Z.pv_loadA rfl (by repeat (first | with_reducible exact Z.Take.here | apply Z.Take.there)) Try.isAgg33 Try.sizeOf33 (by rfl)) ?_
                  refine Z.s_val (Z.pv_fieldAddr (o' := 1) rfl Try.underlying38 rfl Try.sizeOf36 rfl) ?_
                  refine Z.s_val (Z.pv_loadA rfl (by repeat (first | with_reducible exact Z.Take.here | apply Z.Take.there)) Try.isAgg36 Try.sizeOf36 (by rfl)) ?_
                  refine Z.s_callD rfl rfl rfl isFn9 (by repeat (first | with_reducible exact Z.Takes.nil | (apply Z.Takes.cons; (repeat (first | with_reducible exact Z.Take.here | apply Z.Take.there))))) (by repeat (first | exact Z.App.nil | apply Z.App.cons)) (xver_spec _ _ _ _ _ hR hps _ _) ?_
                  refine Z.s_val (Z.pv_assign rfl) ?_
                  refine Z.j_nil ?_
                  refine Z.j_then ?_
                  refine Z.j_seq ?_
                  refine Z.j_region ?_
                  refine Z.s_val (Z.pv_assign rfl) ?_
                  refine Z.j_nil ?_
                  refine Z.j_then ?_
                  refine Z.j_seq ?_
                  refine Z.j_seq ?_
                  refine Z.j_region ?_
                  refine Z.s_val (Z.pv_fieldAddr (o' := 0) rfl Try.underlying38 rfl Try.sizeOf3 rfl) ?_
                  refine Z.s_val (Z.pv_load1 rfl (by repeat (first | with_reducible exact Z.Take.here | apply Z.Take.there)) Try.isAgg3 (by rfl)) ?_
                  refine Z.j_nil ?_
                  refine Z.j_then ?_
                  refine Z.j_block ?_
                  refine Z.j_seq ?_
                  refine Z.j_seq ?_
                  refine Z.j_region ?_
                  refine Z.s_val (Z.pv_eql rfl rfl) ?_
                  refine Z.s_val (Z.pv_assign rfl) ?_
                  refine Z.j_nil ?_
                  refine Z.j_then ?_
                  refine Z.j_cond rfl (fun hc46 => ?_) (fun hc46 => ?_)
                  · try (with_reducible first | replace hc46 := of_decide_eq_true hc46 | replace hc46 := of_decide_eq_false hc46 | replace hc46 := Z.nd_true hc46 | replace hc46 := Z.nd_false hc46 | replace hc46 := Z.nn_true hc46 | replace hc46 := Z.nn_false hc46 | replace hc46 := Z.nb_true hc46 | replace hc46 := Z.nb_false hc46)
                    first
                    | (exfalso; first | (cases hc46; done) | omega)
                    | skip
                      try (have hk00 : (os.getD i OpR.z).kd = 0 := hc46)
                      refine Z.j_skip ?_
                      refine Z.j_then ?_
                      refine Z.j_cond rfl (fun hc46 => ?_) (fun hc46 => ?_)
                      · try (with_reducible first | replace hc46 := of_decide_eq_true hc46 | replace hc46 := of_decide_eq_false hc46 | replace hc46 := Z.nd_true hc46 | replace hc46 := Z.nd_false hc46 | replace hc46 := Z.nn_true hc46 | replace hc46 := Z.nn_false hc46 | replace hc46 := Z.nb_true hc46 | replace hc46 := Z.nb_false hc46)
                        first
                        | (exfalso; first | (cases hc46; done) | omega)
                        | skip
                          try (have hk00 : (os.getD i OpR.z).kd = 0 := hc46)
                          refine Z.j_seq ?_
                          refine Z.j_region ?_
                          refine Z.s_val (Z.pv_loadA rfl (by repeat (first | with_reducible exact Z.Take.here | apply Z.Take.there)) Try.isAgg33 Try.sizeOf33 (by rfl)) ?_
                          refine Z.s_val (Z.pv_fieldAddr (o' := 1) rfl Try.underlying38 rfl Try.sizeOf36 rfl) ?_
                          refine Z.s_val (Z.pv_loadA rfl (by repeat (first | with_reducible exact Z.Take.here | apply Z.Take.there)) Try.isAgg36 Try.sizeOf36 (by rfl)) ?_
                          refine Z.s_call rfl rfl rfl isFn10 (by repeat (first | with_reducible exact Z.Takes.nil | (apply Z.Takes.cons; (repeat (first | with_reducible exact Z.Take.here | apply Z.Take.there))))) (xput_spec _ vp vl _ _ hR hps _ _) ?_
                          rintro _ _ ⟨vp2, vl2, rfl, rfl⟩
                          refine Z.j_app (by repeat (first | exact Z.App.nil | apply Z.App.cons)) ?_
                          refine Z.J.own_one (T := 36) (k := 2) (v := vp2) (by repeat (first | with_reducible exact Z.Take.here | apply Z.Take.there)) (fun hv1 => ?_)
                          refine Z.J.own_one (T := 4) (k := 1) (v := vl2) (by repeat (first | with_reducible exact Z.Take.here | apply Z.Take.there)) (fun hv2 => ?_)
                          refine Z.s_storeA rfl rfl Try.sizeOf33 (ones2 hv1 hv2) (by repeat (first | with_reducible exact Z.Upd.here | apply Z.Upd.there)) (by rfl) ?_
                          refine Z.j_nil ?_
                          refine Z.j_then ?_
                          refine Z.j_drawTm 7 [⟨none, none, [1], fun ρ => Z.cl b10 38 [.int .i64 (os.getD i OpR.z).kd, .int .i64 (os.getD i OpR.z).l, .int .u32 (os.getD i OpR.z).k]⟩, ⟨none, (some 2), [], fun ρ => RowP b7 (rt os i)⟩, ⟨(some 2), none, [], fun ρ => RowP b7 ((rt os i).put (⟨(os.getD i OpR.z).l, (os.getD i OpR.z).k⟩ : Cell))⟩, ⟨none, none, [4], fun ρ => Z.cl b8 33 [vp2, vl2]⟩, ⟨none, none, [5], fun ρ => OC vp2 ((xt os i).put (⟨(os.getD i OpR.z).l, (os.getD i OpR.z).k⟩ : Cell))⟩] [2] (fun ρ => [.pointer (some ⟨b10, 1, none⟩), .agg #[.int .i64 (os.getD i OpR.z).l, .int .u32 (os.getD i OpR.z).k], .int .i64 ((rt os i).last + 1), .pointer (some ⟨b8, 0, none⟩), vp2, .int .i64 ((xt os i).put (⟨(os.getD i OpR.z).l, (os.getD i OpR.z).k⟩ : Cell)).ps.length, .bool (decide (((rt os i).last + 1) = (((xt os i).put (⟨(os.getD i OpR.z).l, (os.getD i OpR.z).k⟩ : Cell)).ps.length : Int)))]) (by kernel_rfl) rfl (by kernel_rfl) (by kernel_rfl) (by rfl) (fun _ => rfl) ⟨fun _ _ => rfl, fun _ _ => rfl, trivial⟩ (fun ρ => (by repeat (first | with_reducible exact Z.Takes.nil | (apply Z.Takes.cons; (repeat (first | with_reducible exact Z.Take.here | apply Z.Take.there))) | exact Z.Takes.nil))) ?_ (fun ρ => ?_)
                          · skip
                            refine Z.tops_cons ?_ ?_
                            · refine Z.top_q (fun ρ => .pointer (some ⟨b10, 1, none⟩)) rfl (fun _ => rfl) (fun ρ Rr => ?_)
                              show Z.HQ _ _ _ _ _ _ (Rr) _ _
                              exact (Z.hq_val (Z.pv_fieldAddr (o' := 1) rfl Try.underlying38 rfl Try.sizeOf36 rfl))
                            refine Z.tops_cons ?_ ?_
                            · refine Z.top_q (fun ρ => .agg #[.int .i64 (os.getD i OpR.z).l, .int .u32 (os.getD i OpR.z).k]) rfl (fun _ => rfl) (fun ρ Rr => ?_)
                              show Z.HQ _ _ _ _ _ _ (Z.cl b10 38 [.int .i64 (os.getD i OpR.z).kd, .int .i64 (os.getD i OpR.z).l, .int .u32 (os.getD i OpR.z).k] :: Rr) _ _
                              exact (Z.hq_val (Z.pv_loadA rfl (by repeat (first | with_reducible exact Z.Take.here | apply Z.Take.there)) Try.isAgg36 Try.sizeOf36 (by rfl)))
                            refine Z.tops_cons ?_ ?_
                            · refine Z.top_c rfl (fun ρ Rr => ?_)
                              refine Z.hn_of rfl (by rfl) rfl (by rfl) ?_
                              show Z.J _ _ _ _ ([RowP b7 (rt os i)] ++ Rr) _
                              refine Z.j_app (by repeat (first | exact Z.App.nil | apply Z.App.cons)) ?_
                              refine Z.s_callD rfl rfl rfl isFn11 (by repeat (first | with_reducible exact Z.Takes.nil | (apply Z.Takes.cons; (repeat (first | with_reducible exact Z.Take.here | apply Z.Take.there))))) (by repeat (first | exact Z.App.nil | apply Z.App.cons)) (put_spec _ _ (rt os i) _ _ hok.l0 hok.l1) ?_
                              refine Z.j_nil ?_
                              refine Z.hn_end (by rfl) (fun w hs => ⟨rfl, Z.st_td (by repeat (first | with_reducible exact Z.Takes.nil | (apply Z.Takes.cons; (repeat (first | exact Z.Take.here | apply Z.Take.there))) | exact Z.Takes.nil)) (by repeat (first | with_reducible exact Z.Drop.nil | apply Z.Drop.cons)) w hs⟩)
                            refine Z.tops_cons ?_ ?_
                            · refine Z.top_q (fun ρ => .pointer (some ⟨b8, 0, none⟩)) rfl (fun _ => rfl) (fun ρ Rr => ?_)
                              show Z.HQ _ _ _ _ _ _ (Rr) _ _
                              exact (Z.hq_val (Z.pv_fieldAddr (o' := 0) rfl Try.underlying33 rfl Try.sizeOf30 rfl))
                            refine Z.tops_cons ?_ ?_
                            · refine Z.top_q (fun ρ => vp2) rfl (fun _ => rfl) (fun ρ Rr => ?_)
                              show Z.HQ _ _ _ _ _ _ (Z.cl b8 33 [vp2, vl2] :: Rr) _ _
                              exact (Z.hq_val (Z.pv_load1 rfl (by repeat (first | with_reducible exact Z.Take.here | apply Z.Take.there)) Try.isAgg30 (by rfl)))
                            refine Z.tops_cons ?_ ?_
                            · refine Z.top_q (fun ρ => .int .i64 ((xt os i).put (⟨(os.getD i OpR.z).l, (os.getD i OpR.z).k⟩ : Cell)).ps.length) rfl (fun _ => rfl) (fun ρ Rr => ?_)
                              show Z.HQ _ _ _ _ _ _ (OC vp2 ((xt os i).put (⟨(os.getD i OpR.z).l, (os.getD i OpR.z).k⟩ : Cell)) :: Rr) _ _
                              exact (Z.hq_val (Z.pv_lenO rfl (by repeat (first | with_reducible exact Z.Take.here | apply Z.Take.there)) Try.underlying30))
                            refine Z.tops_cons ?_ ?_
                            · refine Z.top_q (fun ρ => .bool (decide (((rt os i).last + 1) = (((xt os i).put (⟨(os.getD i OpR.z).l, (os.getD i OpR.z).k⟩ : Cell)).ps.length : Int)))) rfl (fun _ => rfl) (fun ρ Rr => ?_)
                              show Z.HQ _ _ _ _ _ _ (Rr) _ _
                              exact (Z.hq_val (Z.pv_eql rfl rfl))
                            exact Z.tops_nil
                          · show Z.J _ _ _ _ ([Z.cl b10 38 [.int .i64 (os.getD i OpR.z).kd, .int .i64 (os.getD i OpR.z).l, .int .u32 (os.getD i OpR.z).k], RowP b7 ((rt os i).put (⟨(os.getD i OpR.z).l, (os.getD i OpR.z).k⟩ : Cell)), Z.cl b8 33 [vp2, vl2], OC vp2 ((xt os i).put (⟨(os.getD i OpR.z).l, (os.getD i OpR.z).k⟩ : Cell))] ++ _) _
                            refine Z.j_app (by repeat (first | exact Z.App.nil | apply Z.App.cons)) ?_
                            refine Z.s_val (Z.pv_assign rfl) ?_
                            refine Z.s_is 12 rfl (show _ = Value.bool true from congrArg Value.bool (decide_eq_true (by rw [put_len]; have := hR.last; omega))) ?_
                            refine Z.j_nil ?_
                            refine Z.j_blk ?_
                            refine Z.j_then ?_
                            refine Z.j_seq ?_
                            obtain ⟨hok2, hla2, hKB2⟩ := rt_ok hos (i + 1) (by omega)
                            have hR2 := xt_rel hos (i + 1) (by omega)
                            have hps2 : (xt os (i + 1)).ps.length ≤ 60 := by have := hR2.last; omega
                            first
                            | (refine Z.j_cast (A := RowP b7 ((rt os i).put (⟨(os.getD i OpR.z).l, (os.getD i OpR.z).k⟩ : Cell))) (B := RowP b7 (rt os (i + 1))) (by repeat (first | with_reducible exact Z.Take.here | apply Z.Take.there)) (by rw [rt_put (by first | exact .inl hk00 | exact .inr hc46)]) ?_; refine Z.j_cast (A := OC vp2 ((xt os i).put (⟨(os.getD i OpR.z).l, (os.getD i OpR.z).k⟩ : Cell))) (B := OC vp2 (xt os (i + 1))) (by repeat (first | with_reducible exact Z.Take.here | apply Z.Take.there)) (by rw [xt_put (by first | exact .inl hk00 | exact .inr hc46)]) ?_; refine Z.j_cast (A := OB vl2 ((xt os i).put (⟨(os.getD i OpR.z).l, (os.getD i OpR.z).k⟩ : Cell))) (B := OB vl2 (xt os (i + 1))) (by repeat (first | with_reducible exact Z.Take.here | apply Z.Take.there)) (by rw [xt_put (by first | exact .inl hk00 | exact .inr hc46)]) ?_)
                            | (refine Z.j_cast (A := RowP b7 ((rt os i).drop (⟨(os.getD i OpR.z).l, (os.getD i OpR.z).k⟩ : Cell))) (B := RowP b7 (rt os (i + 1))) (by repeat (first | with_reducible exact Z.Take.here | apply Z.Take.there)) (by rw [rt_drop (not_or.2 ⟨hk01, hc46⟩) hc60]) ?_; refine Z.j_cast (A := OC vp ((xt os i).drop (⟨(os.getD i OpR.z).l, (os.getD i OpR.z).k⟩ : Cell))) (B := OC vp (xt os (i + 1))) (by repeat (first | with_reducible exact Z.Take.here | apply Z.Take.there)) (by rw [xt_drop (not_or.2 ⟨hk01, hc46⟩) hc60]) ?_; refine Z.j_cast (A := OB vl2 ((xt os i).drop (⟨(os.getD i OpR.z).l, (os.getD i OpR.z).k⟩ : Cell))) (B := OB vl2 (xt os (i + 1))) (by repeat (first | with_reducible exact Z.Take.here | apply Z.Take.there)) (by rw [xt_drop (not_or.2 ⟨hk01, hc46⟩) hc60]) ?_)
                            | (refine Z.j_cast (A := RowP b7 (rt os i)) (B := RowP b7 (rt os (i + 1))) (by repeat (first | with_reducible exact Z.Take.here | apply Z.Take.there)) (by rw [rt_same (not_or.2 ⟨hk01, hc46⟩) hc60]) ?_; refine Z.j_cast (A := OC vp (xt os i)) (B := OC vp (xt os (i + 1))) (by repeat (first | with_reducible exact Z.Take.here | apply Z.Take.there)) (by rw [xt_same (not_or.2 ⟨hk01, hc46⟩) hc60]) ?_; refine Z.j_cast (A := OB vl (xt os i)) (B := OB vl (xt os (i + 1))) (by repeat (first | with_reducible exact Z.Take.here | apply Z.Take.there)) (by rw [xt_same (not_or.2 ⟨hk01, hc46⟩) hc60]) ?_)
                            refine Z.j_region ?_
                            refine Z.s_val (Z.pv_fieldAddr (o' := 1) rfl Try.underlying38 rfl Try.sizeOf36 rfl) ?_
                            refine Z.s_val (Z.pv_loadA rfl (by repeat (first | with_reducible exact Z.Take.here | apply Z.Take.there)) Try.isAgg36 Try.sizeOf36 (by rfl)) ?_
                            refine Z.s_callD rfl rfl rfl isFn14 (by repeat (first | with_reducible exact Z.Takes.nil | (apply Z.Takes.cons; (repeat (first | with_reducible exact Z.Take.here | apply Z.Take.there))))) (by repeat (first | exact Z.App.nil | apply Z.App.cons)) (version_spec _ _ (rt os (i + 1)) _ _) ?_
                            refine Z.s_val (Z.pv_move rfl) ?_
                            refine Z.s_val (Z.pv_extract rfl rfl) ?_
                            refine Z.s_val (Z.pv_extract rfl rfl) ?_
                            refine Z.s_val (Z.pv_assign rfl) ?_
                            refine Z.s_val (Z.pv_assign rfl) ?_
                            refine Z.j_nil ?_
                            refine Z.j_then ?_
                            refine Z.j_seq ?_
                            refine Z.j_region ?_
                            refine Z.s_val (Z.pv_loadA rfl (by repeat (first | with_reducible exact Z.Take.here | apply Z.Take.there)) Try.isAgg33 Try.sizeOf33 (by rfl)) ?_
                            refine Z.s_val (Z.pv_fieldAddr (o' := 1) rfl Try.underlying38 rfl Try.sizeOf36 rfl) ?_
                            refine Z.s_val (Z.pv_loadA rfl (by repeat (first | with_reducible exact Z.Take.here | apply Z.Take.there)) Try.isAgg36 Try.sizeOf36 (by rfl)) ?_
                            refine Z.s_callD rfl rfl rfl isFn9 (by repeat (first | with_reducible exact Z.Takes.nil | (apply Z.Takes.cons; (repeat (first | with_reducible exact Z.Take.here | apply Z.Take.there))))) (by repeat (first | exact Z.App.nil | apply Z.App.cons)) (xver_spec _ _ _ _ _ hR2 hps2 _ _) ?_
                            refine Z.s_val (Z.pv_assign rfl) ?_
                            refine Z.j_nil ?_
                            refine Z.j_then ?_
                            refine Z.j_seq ?_
                            refine Z.j_draw (vals := [_, _, _, _, _, _, _, _, _, _, _, _, _, _, _, _, _, _, _, _, _, _, _, _, _, _, _, _, _]) 29 (by kernel_rfl) (by kernel_rfl) rfl (by rfl) (Z.heads_cons (Z.hq_val (Z.pv_move (by rfl))) (Z.heads_cons (Z.hq_val (Z.pv_not (by rfl))) (Z.heads_cons (Z.hq_val (Z.pv_move (by rfl))) (Z.heads_cons (Z.hq_val (Z.pv_move (by rfl))) (Z.heads_cons (Z.hq_val (Z.pv_move (by rfl))) (Z.heads_cons (Z.hq_val (Z.pv_is (Z.pv_neq (by rfl) (by rfl)) (show _ = Value.bool false from nsame_i _))) (Z.heads_cons (Z.hq_val (Z.pv_pick (by rfl) (by rfl))) (Z.heads_cons (Z.hq_val (Z.pv_move (by rfl))) (Z.heads_cons (Z.hq_val (Z.pv_move (by rfl))) (Z.heads_cons (Z.hq_val (Z.pv_move (by rfl))) (Z.heads_cons (Z.hq_val (Z.pv_gtr (by rfl) (by rfl))) (Z.heads_cons (Z.hq_val (Z.pv_is (Z.pv_neqb (by rfl) (by rfl) Try.underlying4) (show _ = Value.bool false from by rw [rel_pos hR2]; exact nsame_b _))) (Z.heads_cons (Z.hq_val (Z.pv_pick (by rfl) (by rfl))) (Z.heads_cons (Z.hq_val (Z.pv_move (by rfl))) (Z.heads_cons (Z.hq_val (Z.pv_fieldAddr (o' := 1) (by rfl) Try.underlying38 (by rfl) (by exact Try.sizeOf36) (by rfl))) (Z.heads_cons (Z.hq_val (Z.pv_loadA (by rfl) (by repeat (first | with_reducible exact Z.Take.here | apply Z.Take.there)) Try.isAgg36 (by exact Try.sizeOf36) (by rfl))) (Z.heads_cons (Z.hq_callD (by rfl) (by rfl) (by rfl) isFn15 (by repeat (first | with_reducible exact Z.Takes.nil | (apply Z.Takes.cons; (repeat (first | with_reducible exact Z.Take.here | apply Z.Take.there))))) (by repeat (first | with_reducible exact Z.Takes.nil | (apply Z.Takes.cons; (repeat (first | with_reducible exact Z.Take.here | apply Z.Take.there))))) (seen_spec _ _ (rt os (i + 1)) _ _)) (Z.heads_cons (Z.hq_val (Z.pv_loadA (by rfl) (by repeat (first | with_reducible exact Z.Take.here | apply Z.Take.there)) Try.isAgg33 (by exact Try.sizeOf33) (by rfl))) (Z.heads_cons (Z.hq_val (Z.pv_fieldAddr (o' := 1) (by rfl) Try.underlying38 (by rfl) (by exact Try.sizeOf36) (by rfl))) (Z.heads_cons (Z.hq_val (Z.pv_loadA (by rfl) (by repeat (first | with_reducible exact Z.Take.here | apply Z.Take.there)) Try.isAgg36 (by exact Try.sizeOf36) (by rfl))) (Z.heads_cons (Z.hq_callD (by rfl) (by rfl) (by rfl) isFn16 (by repeat (first | with_reducible exact Z.Takes.nil | (apply Z.Takes.cons; (repeat (first | with_reducible exact Z.Take.here | apply Z.Take.there))))) (by repeat (first | with_reducible exact Z.Takes.nil | (apply Z.Takes.cons; (repeat (first | with_reducible exact Z.Take.here | apply Z.Take.there))))) (xseen_spec _ _ _ _ _ hR2 hps2 _ _)) (Z.heads_cons (Z.hq_val (Z.pv_is (Z.pv_neqb (by rfl) (by rfl) Try.underlying4) (show _ = Value.bool false from nsame_b _))) (Z.heads_cons (Z.hq_val (Z.pv_pick (by rfl) (by rfl))) (Z.heads_cons (Z.hq_val (Z.pv_move (by rfl))) (Z.heads_cons (Z.hq_callD (by rfl) (by rfl) (by rfl) isFn17 (by repeat (first | with_reducible exact Z.Takes.nil | (apply Z.Takes.cons; (repeat (first | with_reducible exact Z.Take.here | apply Z.Take.there))))) (by repeat (first | with_reducible exact Z.Takes.nil | (apply Z.Takes.cons; (repeat (first | with_reducible exact Z.Take.here | apply Z.Take.there))))) (ever_spec _ _ (rt os (i + 1)))) (Z.heads_cons (Z.hq_val (Z.pv_loadA (by rfl) (by repeat (first | with_reducible exact Z.Take.here | apply Z.Take.there)) Try.isAgg33 (by exact Try.sizeOf33) (by rfl))) (Z.heads_cons (Z.hq_callD (by rfl) (by rfl) (by rfl) isFn18 (by repeat (first | with_reducible exact Z.Takes.nil | (apply Z.Takes.cons; (repeat (first | with_reducible exact Z.Take.here | apply Z.Take.there))))) (by repeat (first | with_reducible exact Z.Takes.nil | (apply Z.Takes.cons; (repeat (first | with_reducible exact Z.Take.here | apply Z.Take.there))))) (xever_spec _ _ _ _ _ hR2 hps2)) (Z.heads_cons (Z.hq_val (Z.pv_is (Z.pv_neq (by rfl) (by rfl)) (show _ = Value.bool false from nsame_i _))) (Z.heads_cons (Z.hq_val (Z.pv_pick (by rfl) (by rfl))) Z.heads_nil))))))))))))))))))))))))))))) ?_
                            refine Z.j_nil ?_
                            refine Z.j_then ?_
                            refine Z.j_cond rfl (fun hc110 => ?_) (fun hc110 => ?_)
                            · try (with_reducible first | replace hc110 := of_decide_eq_true hc110 | replace hc110 := of_decide_eq_false hc110 | replace hc110 := Z.nd_true hc110 | replace hc110 := Z.nd_false hc110 | replace hc110 := Z.nn_true hc110 | replace hc110 := Z.nn_false hc110 | replace hc110 := Z.nb_true hc110 | replace hc110 := Z.nb_false hc110)
                              first
                              | (exfalso; first | (cases hc110; done) | omega)
                              | skip
                                refine Z.j_seq ?_
                                refine Z.j_region ?_
                                refine Z.s_val (Z.pv_assign rfl) ?_
                                refine Z.j_nil ?_
                                refine Z.j_then ?_
                                refine Z.j_ret ?_
                                refine Z.j_blk_ret ?_
                                refine Z.j_then_ret ?_
                                refine Z.j_then_ret ?_
                                refine Z.j_blk_ret ?_
                                refine Z.j_then_ret ?_
                                refine Z.j_doneM_ret (bs := []) .nil (Z.rv1 (Z.rv_tmp (t := 6) rfl)) ?_
                                exact Z.post_of ⟨rfl, rfl⟩ (by repeat (first | with_reducible exact Z.Takes.nil | (apply Z.Takes.cons; (repeat (first | with_reducible exact Z.Take.here | apply Z.Take.there))))) (by repeat (first | with_reducible exact Z.Drop.nil | apply Z.Drop.cons))
                            · try (with_reducible first | replace hc110 := of_decide_eq_true hc110 | replace hc110 := of_decide_eq_false hc110 | replace hc110 := Z.nd_true hc110 | replace hc110 := Z.nd_false hc110 | replace hc110 := Z.nn_true hc110 | replace hc110 := Z.nn_false hc110 | replace hc110 := Z.nb_true hc110 | replace hc110 := Z.nb_false hc110)
                              first
                              | (exfalso; first | (cases hc110; done) | omega)
                              | skip
                                refine Z.j_skip ?_
                                refine Z.j_blk ?_
                                refine Z.j_then ?_
                                refine Z.j_region ?_
                                refine Z.s_val (Z.pv_add rfl rfl (by first | exact IntWalk.i64_in _ (by omega) | rfl)) ?_
                                refine Z.s_val (Z.pv_move rfl) ?_
                                refine Z.j_nil ?_
                                refine Z.j_then ?_
                                first | (refine Z.j_nextG (X := { x : (Nat) × (Value) × (Value) // (x.1) ≤ n }) (EE := (fun (x : { x : (Nat) × (Value) × (Value) // (x.1) ≤ n }) => [(0, .slice p n cap), (1, v), (2, .int .i64 most), (7, .pointer (some ⟨b7, 0, none⟩)), (8, .pointer (some ⟨b8, 0, none⟩)), (34, .slice p n cap), (35, .int .i64 n), (36, .int .i64 ((x.1.1) : Nat))])) (LL := (fun (x : { x : (Nat) × (Value) × (Value) // (x.1) ≤ n }) => [RowP b7 (rt os (x.1.1)), Z.cl b8 33 [(x.1.2.1), (x.1.2.2)], OC (x.1.2.1) (xt os (x.1.1)), OB (x.1.2.2) (xt os (x.1.1))])) (μ := (fun (x : { x : (Nat) × (Value) × (Value) // (x.1) ≤ n }) => n - (x.1.1))) (x := ⟨(i, vp, vl), hinv⟩) ⟨(i + 1, vp2, vl2), by omega⟩ ?_ ?_ ?_; (show n - (i + 1) < n - i; omega); (exact (by repeat (first | exact trivial | refine ⟨rfl, ?_⟩))); (exact Z.st_td (by repeat (first | with_reducible exact Z.Takes.nil | (apply Z.Takes.cons; (repeat (first | with_reducible exact Z.Take.here | apply Z.Take.there))))) (by repeat (first | with_reducible exact Z.Drop.nil | apply Z.Drop.cons)))) | (refine Z.j_nextG (X := { x : (Nat) × (Value) × (Value) // (x.1) ≤ n }) (EE := (fun (x : { x : (Nat) × (Value) × (Value) // (x.1) ≤ n }) => [(0, .slice p n cap), (1, v), (2, .int .i64 most), (7, .pointer (some ⟨b7, 0, none⟩)), (8, .pointer (some ⟨b8, 0, none⟩)), (34, .slice p n cap), (35, .int .i64 n), (36, .int .i64 ((x.1.1) : Nat))])) (LL := (fun (x : { x : (Nat) × (Value) × (Value) // (x.1) ≤ n }) => [RowP b7 (rt os (x.1.1)), Z.cl b8 33 [(x.1.2.1), (x.1.2.2)], OC (x.1.2.1) (xt os (x.1.1)), OB (x.1.2.2) (xt os (x.1.1))])) (μ := (fun (x : { x : (Nat) × (Value) × (Value) // (x.1) ≤ n }) => n - (x.1.1))) (x := ⟨(i, vp, vl), hinv⟩) ⟨(i + 1, vp, vl2), by omega⟩ ?_ ?_ ?_; (show n - (i + 1) < n - i; omega); (exact (by repeat (first | exact trivial | refine ⟨rfl, ?_⟩))); (exact Z.st_td (by repeat (first | with_reducible exact Z.Takes.nil | (apply Z.Takes.cons; (repeat (first | with_reducible exact Z.Take.here | apply Z.Take.there))))) (by repeat (first | with_reducible exact Z.Drop.nil | apply Z.Drop.cons)))) | (refine Z.j_nextG (X := { x : (Nat) × (Value) × (Value) // (x.1) ≤ n }) (EE := (fun (x : { x : (Nat) × (Value) × (Value) // (x.1) ≤ n }) => [(0, .slice p n cap), (1, v), (2, .int .i64 most), (7, .pointer (some ⟨b7, 0, none⟩)), (8, .pointer (some ⟨b8, 0, none⟩)), (34, .slice p n cap), (35, .int .i64 n), (36, .int .i64 ((x.1.1) : Nat))])) (LL := (fun (x : { x : (Nat) × (Value) × (Value) // (x.1) ≤ n }) => [RowP b7 (rt os (x.1.1)), Z.cl b8 33 [(x.1.2.1), (x.1.2.2)], OC (x.1.2.1) (xt os (x.1.1)), OB (x.1.2.2) (xt os (x.1.1))])) (μ := (fun (x : { x : (Nat) × (Value) × (Value) // (x.1) ≤ n }) => n - (x.1.1))) (x := ⟨(i, vp, vl), hinv⟩) ⟨(i + 1, vp, vl), by omega⟩ ?_ ?_ ?_; (show n - (i + 1) < n - i; omega); (exact (by repeat (first | exact trivial | refine ⟨rfl, ?_⟩))); (exact Z.st_td (by repeat (first | with_reducible exact Z.Takes.nil | (apply Z.Takes.cons; (repeat (first | with_reducible exact Z.Take.here | apply Z.Take.there))))) (by repeat (first | with_reducible exact Z.Drop.nil | apply Z.Drop.cons))))
                      · exfalso; first | (cases hc46; done) | (simp at hc46; done) | (simp at hc46; omega) | (replace hc46 := of_decide_eq_true hc46; contradiction) | (replace hc46 := of_decide_eq_false hc46; contradiction)
                  · try (with_reducible first | replace hc46 := of_decide_eq_true hc46 | replace hc46 := of_decide_eq_false hc46 | replace hc46 := Z.nd_true hc46 | replace hc46 := Z.nd_false hc46 | replace hc46 := Z.nn_true hc46 | replace hc46 := Z.nn_false hc46 | replace hc46 := Z.nb_true hc46 | replace hc46 := Z.nb_false hc46)
                    first
                    | (exfalso; first | (cases hc46; done) | omega)
                    | skip
                      try (have hk01 : ¬ (os.getD i OpR.z).kd = 0 := hc46)
                      refine Z.j_region ?_
                      refine Z.s_val (Z.pv_eql rfl rfl) ?_
                      refine Z.s_val (Z.pv_assign rfl) ?_
                      refine Z.j_nil ?_
                      refine Z.j_then ?_
                      refine Z.j_cond rfl (fun hc46 => ?_) (fun hc46 => ?_)
                      · try (with_reducible first | replace hc46 := of_decide_eq_true hc46 | replace hc46 := of_decide_eq_false hc46 | replace hc46 := Z.nd_true hc46 | replace hc46 := Z.nd_false hc46 | replace hc46 := Z.nn_true hc46 | replace hc46 := Z.nn_false hc46 | replace hc46 := Z.nb_true hc46 | replace hc46 := Z.nb_false hc46)
                        first
                        | (exfalso; first | (cases hc46; done) | omega)
                        | skip
                          try (have hk00 : (os.getD i OpR.z).kd = 0 := hc46)
                          refine Z.j_seq ?_
                          refine Z.j_region ?_
                          refine Z.s_val (Z.pv_loadA rfl (by repeat (first | with_reducible exact Z.Take.here | apply Z.Take.there)) Try.isAgg33 Try.sizeOf33 (by rfl)) ?_
                          refine Z.s_val (Z.pv_fieldAddr (o' := 1) rfl Try.underlying38 rfl Try.sizeOf36 rfl) ?_
                          refine Z.s_val (Z.pv_loadA rfl (by repeat (first | with_reducible exact Z.Take.here | apply Z.Take.there)) Try.isAgg36 Try.sizeOf36 (by rfl)) ?_
                          refine Z.s_call rfl rfl rfl isFn10 (by repeat (first | with_reducible exact Z.Takes.nil | (apply Z.Takes.cons; (repeat (first | with_reducible exact Z.Take.here | apply Z.Take.there))))) (xput_spec _ vp vl _ _ hR hps _ _) ?_
                          rintro _ _ ⟨vp2, vl2, rfl, rfl⟩
                          refine Z.j_app (by repeat (first | exact Z.App.nil | apply Z.App.cons)) ?_
                          refine Z.J.own_one (T := 36) (k := 2) (v := vp2) (by repeat (first | with_reducible exact Z.Take.here | apply Z.Take.there)) (fun hv1 => ?_)
                          refine Z.J.own_one (T := 4) (k := 1) (v := vl2) (by repeat (first | with_reducible exact Z.Take.here | apply Z.Take.there)) (fun hv2 => ?_)
                          refine Z.s_storeA rfl rfl Try.sizeOf33 (ones2 hv1 hv2) (by repeat (first | with_reducible exact Z.Upd.here | apply Z.Upd.there)) (by rfl) ?_
                          refine Z.j_nil ?_
                          refine Z.j_then ?_
                          refine Z.j_drawTm 7 [⟨none, none, [1], fun ρ => Z.cl b10 38 [.int .i64 (os.getD i OpR.z).kd, .int .i64 (os.getD i OpR.z).l, .int .u32 (os.getD i OpR.z).k]⟩, ⟨none, (some 2), [], fun ρ => RowP b7 (rt os i)⟩, ⟨(some 2), none, [], fun ρ => RowP b7 ((rt os i).put (⟨(os.getD i OpR.z).l, (os.getD i OpR.z).k⟩ : Cell))⟩, ⟨none, none, [4], fun ρ => Z.cl b8 33 [vp2, vl2]⟩, ⟨none, none, [5], fun ρ => OC vp2 ((xt os i).put (⟨(os.getD i OpR.z).l, (os.getD i OpR.z).k⟩ : Cell))⟩] [2] (fun ρ => [.pointer (some ⟨b10, 1, none⟩), .agg #[.int .i64 (os.getD i OpR.z).l, .int .u32 (os.getD i OpR.z).k], .int .i64 ((rt os i).last + 1), .pointer (some ⟨b8, 0, none⟩), vp2, .int .i64 ((xt os i).put (⟨(os.getD i OpR.z).l, (os.getD i OpR.z).k⟩ : Cell)).ps.length, .bool (decide (((rt os i).last + 1) = (((xt os i).put (⟨(os.getD i OpR.z).l, (os.getD i OpR.z).k⟩ : Cell)).ps.length : Int)))]) (by kernel_rfl) rfl (by kernel_rfl) (by kernel_rfl) (by rfl) (fun _ => rfl) ⟨fun _ _ => rfl, fun _ _ => rfl, trivial⟩ (fun ρ => (by repeat (first | with_reducible exact Z.Takes.nil | (apply Z.Takes.cons; (repeat (first | with_reducible exact Z.Take.here | apply Z.Take.there))) | exact Z.Takes.nil))) ?_ (fun ρ => ?_)
                          · skip
                            refine Z.tops_cons ?_ ?_
                            · refine Z.top_q (fun ρ => .pointer (some ⟨b10, 1, none⟩)) rfl (fun _ => rfl) (fun ρ Rr => ?_)
                              show Z.HQ _ _ _ _ _ _ (Rr) _ _
                              exact (Z.hq_val (Z.pv_fieldAddr (o' := 1) rfl Try.underlying38 rfl Try.sizeOf36 rfl))
                            refine Z.tops_cons ?_ ?_
                            · refine Z.top_q (fun ρ => .agg #[.int .i64 (os.getD i OpR.z).l, .int .u32 (os.getD i OpR.z).k]) rfl (fun _ => rfl) (fun ρ Rr => ?_)
                              show Z.HQ _ _ _ _ _ _ (Z.cl b10 38 [.int .i64 (os.getD i OpR.z).kd, .int .i64 (os.getD i OpR.z).l, .int .u32 (os.getD i OpR.z).k] :: Rr) _ _
                              exact (Z.hq_val (Z.pv_loadA rfl (by repeat (first | with_reducible exact Z.Take.here | apply Z.Take.there)) Try.isAgg36 Try.sizeOf36 (by rfl)))
                            refine Z.tops_cons ?_ ?_
                            · refine Z.top_c rfl (fun ρ Rr => ?_)
                              refine Z.hn_of rfl (by rfl) rfl (by rfl) ?_
                              show Z.J _ _ _ _ ([RowP b7 (rt os i)] ++ Rr) _
                              refine Z.j_app (by repeat (first | exact Z.App.nil | apply Z.App.cons)) ?_
                              refine Z.s_callD rfl rfl rfl isFn11 (by repeat (first | with_reducible exact Z.Takes.nil | (apply Z.Takes.cons; (repeat (first | with_reducible exact Z.Take.here | apply Z.Take.there))))) (by repeat (first | exact Z.App.nil | apply Z.App.cons)) (put_spec _ _ (rt os i) _ _ hok.l0 hok.l1) ?_
                              refine Z.j_nil ?_
                              refine Z.hn_end (by rfl) (fun w hs => ⟨rfl, Z.st_td (by repeat (first | with_reducible exact Z.Takes.nil | (apply Z.Takes.cons; (repeat (first | exact Z.Take.here | apply Z.Take.there))) | exact Z.Takes.nil)) (by repeat (first | with_reducible exact Z.Drop.nil | apply Z.Drop.cons)) w hs⟩)
                            refine Z.tops_cons ?_ ?_
                            · refine Z.top_q (fun ρ => .pointer (some ⟨b8, 0, none⟩)) rfl (fun _ => rfl) (fun ρ Rr => ?_)
                              show Z.HQ _ _ _ _ _ _ (Rr) _ _
                              exact (Z.hq_val (Z.pv_fieldAddr (o' := 0) rfl Try.underlying33 rfl Try.sizeOf30 rfl))
                            refine Z.tops_cons ?_ ?_
                            · refine Z.top_q (fun ρ => vp2) rfl (fun _ => rfl) (fun ρ Rr => ?_)
                              show Z.HQ _ _ _ _ _ _ (Z.cl b8 33 [vp2, vl2] :: Rr) _ _
                              exact (Z.hq_val (Z.pv_load1 rfl (by repeat (first | with_reducible exact Z.Take.here | apply Z.Take.there)) Try.isAgg30 (by rfl)))
                            refine Z.tops_cons ?_ ?_
                            · refine Z.top_q (fun ρ => .int .i64 ((xt os i).put (⟨(os.getD i OpR.z).l, (os.getD i OpR.z).k⟩ : Cell)).ps.length) rfl (fun _ => rfl) (fun ρ Rr => ?_)
                              show Z.HQ _ _ _ _ _ _ (OC vp2 ((xt os i).put (⟨(os.getD i OpR.z).l, (os.getD i OpR.z).k⟩ : Cell)) :: Rr) _ _
                              exact (Z.hq_val (Z.pv_lenO rfl (by repeat (first | with_reducible exact Z.Take.here | apply Z.Take.there)) Try.underlying30))
                            refine Z.tops_cons ?_ ?_
                            · refine Z.top_q (fun ρ => .bool (decide (((rt os i).last + 1) = (((xt os i).put (⟨(os.getD i OpR.z).l, (os.getD i OpR.z).k⟩ : Cell)).ps.length : Int)))) rfl (fun _ => rfl) (fun ρ Rr => ?_)
                              show Z.HQ _ _ _ _ _ _ (Rr) _ _
                              exact (Z.hq_val (Z.pv_eql rfl rfl))
                            exact Z.tops_nil
                          · show Z.J _ _ _ _ ([Z.cl b10 38 [.int .i64 (os.getD i OpR.z).kd, .int .i64 (os.getD i OpR.z).l, .int .u32 (os.getD i OpR.z).k], RowP b7 ((rt os i).put (⟨(os.getD i OpR.z).l, (os.getD i OpR.z).k⟩ : Cell)), Z.cl b8 33 [vp2, vl2], OC vp2 ((xt os i).put (⟨(os.getD i OpR.z).l, (os.getD i OpR.z).k⟩ : Cell))] ++ _) _
                            refine Z.j_app (by repeat (first | exact Z.App.nil | apply Z.App.cons)) ?_
                            refine Z.s_val (Z.pv_assign rfl) ?_
                            refine Z.s_is 12 rfl (show _ = Value.bool true from congrArg Value.bool (decide_eq_true (by rw [put_len]; have := hR.last; omega))) ?_
                            refine Z.j_nil ?_
                            refine Z.j_blk ?_
                            refine Z.j_then ?_
                            refine Z.j_seq ?_
                            obtain ⟨hok2, hla2, hKB2⟩ := rt_ok hos (i + 1) (by omega)
                            have hR2 := xt_rel hos (i + 1) (by omega)
                            have hps2 : (xt os (i + 1)).ps.length ≤ 60 := by have := hR2.last; omega
                            first
                            | (refine Z.j_cast (A := RowP b7 ((rt os i).put (⟨(os.getD i OpR.z).l, (os.getD i OpR.z).k⟩ : Cell))) (B := RowP b7 (rt os (i + 1))) (by repeat (first | with_reducible exact Z.Take.here | apply Z.Take.there)) (by rw [rt_put (by first | exact .inl hk00 | exact .inr hc46)]) ?_; refine Z.j_cast (A := OC vp2 ((xt os i).put (⟨(os.getD i OpR.z).l, (os.getD i OpR.z).k⟩ : Cell))) (B := OC vp2 (xt os (i + 1))) (by repeat (first | with_reducible exact Z.Take.here | apply Z.Take.there)) (by rw [xt_put (by first | exact .inl hk00 | exact .inr hc46)]) ?_; refine Z.j_cast (A := OB vl2 ((xt os i).put (⟨(os.getD i OpR.z).l, (os.getD i OpR.z).k⟩ : Cell))) (B := OB vl2 (xt os (i + 1))) (by repeat (first | with_reducible exact Z.Take.here | apply Z.Take.there)) (by rw [xt_put (by first | exact .inl hk00 | exact .inr hc46)]) ?_)
                            | (refine Z.j_cast (A := RowP b7 ((rt os i).drop (⟨(os.getD i OpR.z).l, (os.getD i OpR.z).k⟩ : Cell))) (B := RowP b7 (rt os (i + 1))) (by repeat (first | with_reducible exact Z.Take.here | apply Z.Take.there)) (by rw [rt_drop (not_or.2 ⟨hk01, hc46⟩) hc60]) ?_; refine Z.j_cast (A := OC vp ((xt os i).drop (⟨(os.getD i OpR.z).l, (os.getD i OpR.z).k⟩ : Cell))) (B := OC vp (xt os (i + 1))) (by repeat (first | with_reducible exact Z.Take.here | apply Z.Take.there)) (by rw [xt_drop (not_or.2 ⟨hk01, hc46⟩) hc60]) ?_; refine Z.j_cast (A := OB vl2 ((xt os i).drop (⟨(os.getD i OpR.z).l, (os.getD i OpR.z).k⟩ : Cell))) (B := OB vl2 (xt os (i + 1))) (by repeat (first | with_reducible exact Z.Take.here | apply Z.Take.there)) (by rw [xt_drop (not_or.2 ⟨hk01, hc46⟩) hc60]) ?_)
                            | (refine Z.j_cast (A := RowP b7 (rt os i)) (B := RowP b7 (rt os (i + 1))) (by repeat (first | with_reducible exact Z.Take.here | apply Z.Take.there)) (by rw [rt_same (not_or.2 ⟨hk01, hc46⟩) hc60]) ?_; refine Z.j_cast (A := OC vp (xt os i)) (B := OC vp (xt os (i + 1))) (by repeat (first | with_reducible exact Z.Take.here | apply Z.Take.there)) (by rw [xt_same (not_or.2 ⟨hk01, hc46⟩) hc60]) ?_; refine Z.j_cast (A := OB vl (xt os i)) (B := OB vl (xt os (i + 1))) (by repeat (first | with_reducible exact Z.Take.here | apply Z.Take.there)) (by rw [xt_same (not_or.2 ⟨hk01, hc46⟩) hc60]) ?_)
                            refine Z.j_region ?_
                            refine Z.s_val (Z.pv_fieldAddr (o' := 1) rfl Try.underlying38 rfl Try.sizeOf36 rfl) ?_
                            refine Z.s_val (Z.pv_loadA rfl (by repeat (first | with_reducible exact Z.Take.here | apply Z.Take.there)) Try.isAgg36 Try.sizeOf36 (by rfl)) ?_
                            refine Z.s_callD rfl rfl rfl isFn14 (by repeat (first | with_reducible exact Z.Takes.nil | (apply Z.Takes.cons; (repeat (first | with_reducible exact Z.Take.here | apply Z.Take.there))))) (by repeat (first | exact Z.App.nil | apply Z.App.cons)) (version_spec _ _ (rt os (i + 1)) _ _) ?_
                            refine Z.s_val (Z.pv_move rfl) ?_
                            refine Z.s_val (Z.pv_extract rfl rfl) ?_
                            refine Z.s_val (Z.pv_extract rfl rfl) ?_
                            refine Z.s_val (Z.pv_assign rfl) ?_
                            refine Z.s_val (Z.pv_assign rfl) ?_
                            refine Z.j_nil ?_
                            refine Z.j_then ?_
                            refine Z.j_seq ?_
                            refine Z.j_region ?_
                            refine Z.s_val (Z.pv_loadA rfl (by repeat (first | with_reducible exact Z.Take.here | apply Z.Take.there)) Try.isAgg33 Try.sizeOf33 (by rfl)) ?_
                            refine Z.s_val (Z.pv_fieldAddr (o' := 1) rfl Try.underlying38 rfl Try.sizeOf36 rfl) ?_
                            refine Z.s_val (Z.pv_loadA rfl (by repeat (first | with_reducible exact Z.Take.here | apply Z.Take.there)) Try.isAgg36 Try.sizeOf36 (by rfl)) ?_
                            refine Z.s_callD rfl rfl rfl isFn9 (by repeat (first | with_reducible exact Z.Takes.nil | (apply Z.Takes.cons; (repeat (first | with_reducible exact Z.Take.here | apply Z.Take.there))))) (by repeat (first | exact Z.App.nil | apply Z.App.cons)) (xver_spec _ _ _ _ _ hR2 hps2 _ _) ?_
                            refine Z.s_val (Z.pv_assign rfl) ?_
                            refine Z.j_nil ?_
                            refine Z.j_then ?_
                            refine Z.j_seq ?_
                            refine Z.j_draw (vals := [_, _, _, _, _, _, _, _, _, _, _, _, _, _, _, _, _, _, _, _, _, _, _, _, _, _, _, _, _]) 29 (by kernel_rfl) (by kernel_rfl) rfl (by rfl) (Z.heads_cons (Z.hq_val (Z.pv_move (by rfl))) (Z.heads_cons (Z.hq_val (Z.pv_not (by rfl))) (Z.heads_cons (Z.hq_val (Z.pv_move (by rfl))) (Z.heads_cons (Z.hq_val (Z.pv_move (by rfl))) (Z.heads_cons (Z.hq_val (Z.pv_move (by rfl))) (Z.heads_cons (Z.hq_val (Z.pv_is (Z.pv_neq (by rfl) (by rfl)) (show _ = Value.bool false from nsame_i _))) (Z.heads_cons (Z.hq_val (Z.pv_pick (by rfl) (by rfl))) (Z.heads_cons (Z.hq_val (Z.pv_move (by rfl))) (Z.heads_cons (Z.hq_val (Z.pv_move (by rfl))) (Z.heads_cons (Z.hq_val (Z.pv_move (by rfl))) (Z.heads_cons (Z.hq_val (Z.pv_gtr (by rfl) (by rfl))) (Z.heads_cons (Z.hq_val (Z.pv_is (Z.pv_neqb (by rfl) (by rfl) Try.underlying4) (show _ = Value.bool false from by rw [rel_pos hR2]; exact nsame_b _))) (Z.heads_cons (Z.hq_val (Z.pv_pick (by rfl) (by rfl))) (Z.heads_cons (Z.hq_val (Z.pv_move (by rfl))) (Z.heads_cons (Z.hq_val (Z.pv_fieldAddr (o' := 1) (by rfl) Try.underlying38 (by rfl) (by exact Try.sizeOf36) (by rfl))) (Z.heads_cons (Z.hq_val (Z.pv_loadA (by rfl) (by repeat (first | with_reducible exact Z.Take.here | apply Z.Take.there)) Try.isAgg36 (by exact Try.sizeOf36) (by rfl))) (Z.heads_cons (Z.hq_callD (by rfl) (by rfl) (by rfl) isFn15 (by repeat (first | with_reducible exact Z.Takes.nil | (apply Z.Takes.cons; (repeat (first | with_reducible exact Z.Take.here | apply Z.Take.there))))) (by repeat (first | with_reducible exact Z.Takes.nil | (apply Z.Takes.cons; (repeat (first | with_reducible exact Z.Take.here | apply Z.Take.there))))) (seen_spec _ _ (rt os (i + 1)) _ _)) (Z.heads_cons (Z.hq_val (Z.pv_loadA (by rfl) (by repeat (first | with_reducible exact Z.Take.here | apply Z.Take.there)) Try.isAgg33 (by exact Try.sizeOf33) (by rfl))) (Z.heads_cons (Z.hq_val (Z.pv_fieldAddr (o' := 1) (by rfl) Try.underlying38 (by rfl) (by exact Try.sizeOf36) (by rfl))) (Z.heads_cons (Z.hq_val (Z.pv_loadA (by rfl) (by repeat (first | with_reducible exact Z.Take.here | apply Z.Take.there)) Try.isAgg36 (by exact Try.sizeOf36) (by rfl))) (Z.heads_cons (Z.hq_callD (by rfl) (by rfl) (by rfl) isFn16 (by repeat (first | with_reducible exact Z.Takes.nil | (apply Z.Takes.cons; (repeat (first | with_reducible exact Z.Take.here | apply Z.Take.there))))) (by repeat (first | with_reducible exact Z.Takes.nil | (apply Z.Takes.cons; (repeat (first | with_reducible exact Z.Take.here | apply Z.Take.there))))) (xseen_spec _ _ _ _ _ hR2 hps2 _ _)) (Z.heads_cons (Z.hq_val (Z.pv_is (Z.pv_neqb (by rfl) (by rfl) Try.underlying4) (show _ = Value.bool false from nsame_b _))) (Z.heads_cons (Z.hq_val (Z.pv_pick (by rfl) (by rfl))) (Z.heads_cons (Z.hq_val (Z.pv_move (by rfl))) (Z.heads_cons (Z.hq_callD (by rfl) (by rfl) (by rfl) isFn17 (by repeat (first | with_reducible exact Z.Takes.nil | (apply Z.Takes.cons; (repeat (first | with_reducible exact Z.Take.here | apply Z.Take.there))))) (by repeat (first | with_reducible exact Z.Takes.nil | (apply Z.Takes.cons; (repeat (first | with_reducible exact Z.Take.here | apply Z.Take.there))))) (ever_spec _ _ (rt os (i + 1)))) (Z.heads_cons (Z.hq_val (Z.pv_loadA (by rfl) (by repeat (first | with_reducible exact Z.Take.here | apply Z.Take.there)) Try.isAgg33 (by exact Try.sizeOf33) (by rfl))) (Z.heads_cons (Z.hq_callD (by rfl) (by rfl) (by rfl) isFn18 (by repeat (first | with_reducible exact Z.Takes.nil | (apply Z.Takes.cons; (repeat (first | with_reducible exact Z.Take.here | apply Z.Take.there))))) (by repeat (first | with_reducible exact Z.Takes.nil | (apply Z.Takes.cons; (repeat (first | with_reducible exact Z.Take.here | apply Z.Take.there))))) (xever_spec _ _ _ _ _ hR2 hps2)) (Z.heads_cons (Z.hq_val (Z.pv_is (Z.pv_neq (by rfl) (by rfl)) (show _ = Value.bool false from nsame_i _))) (Z.heads_cons (Z.hq_val (Z.pv_pick (by rfl) (by rfl))) Z.heads_nil))))))))))))))))))))))))))))) ?_
                            refine Z.j_nil ?_
                            refine Z.j_then ?_
                            refine Z.j_cond rfl (fun hc110 => ?_) (fun hc110 => ?_)
                            · try (with_reducible first | replace hc110 := of_decide_eq_true hc110 | replace hc110 := of_decide_eq_false hc110 | replace hc110 := Z.nd_true hc110 | replace hc110 := Z.nd_false hc110 | replace hc110 := Z.nn_true hc110 | replace hc110 := Z.nn_false hc110 | replace hc110 := Z.nb_true hc110 | replace hc110 := Z.nb_false hc110)
                              first
                              | (exfalso; first | (cases hc110; done) | omega)
                              | skip
                                refine Z.j_seq ?_
                                refine Z.j_region ?_
                                refine Z.s_val (Z.pv_assign rfl) ?_
                                refine Z.j_nil ?_
                                refine Z.j_then ?_
                                refine Z.j_ret ?_
                                refine Z.j_blk_ret ?_
                                refine Z.j_then_ret ?_
                                refine Z.j_then_ret ?_
                                refine Z.j_blk_ret ?_
                                refine Z.j_then_ret ?_
                                refine Z.j_doneM_ret (bs := []) .nil (Z.rv1 (Z.rv_tmp (t := 6) rfl)) ?_
                                exact Z.post_of ⟨rfl, rfl⟩ (by repeat (first | with_reducible exact Z.Takes.nil | (apply Z.Takes.cons; (repeat (first | with_reducible exact Z.Take.here | apply Z.Take.there))))) (by repeat (first | with_reducible exact Z.Drop.nil | apply Z.Drop.cons))
                            · try (with_reducible first | replace hc110 := of_decide_eq_true hc110 | replace hc110 := of_decide_eq_false hc110 | replace hc110 := Z.nd_true hc110 | replace hc110 := Z.nd_false hc110 | replace hc110 := Z.nn_true hc110 | replace hc110 := Z.nn_false hc110 | replace hc110 := Z.nb_true hc110 | replace hc110 := Z.nb_false hc110)
                              first
                              | (exfalso; first | (cases hc110; done) | omega)
                              | skip
                                refine Z.j_skip ?_
                                refine Z.j_blk ?_
                                refine Z.j_then ?_
                                refine Z.j_region ?_
                                refine Z.s_val (Z.pv_add rfl rfl (by first | exact IntWalk.i64_in _ (by omega) | rfl)) ?_
                                refine Z.s_val (Z.pv_move rfl) ?_
                                refine Z.j_nil ?_
                                refine Z.j_then ?_
                                first | (refine Z.j_nextG (X := { x : (Nat) × (Value) × (Value) // (x.1) ≤ n }) (EE := (fun (x : { x : (Nat) × (Value) × (Value) // (x.1) ≤ n }) => [(0, .slice p n cap), (1, v), (2, .int .i64 most), (7, .pointer (some ⟨b7, 0, none⟩)), (8, .pointer (some ⟨b8, 0, none⟩)), (34, .slice p n cap), (35, .int .i64 n), (36, .int .i64 ((x.1.1) : Nat))])) (LL := (fun (x : { x : (Nat) × (Value) × (Value) // (x.1) ≤ n }) => [RowP b7 (rt os (x.1.1)), Z.cl b8 33 [(x.1.2.1), (x.1.2.2)], OC (x.1.2.1) (xt os (x.1.1)), OB (x.1.2.2) (xt os (x.1.1))])) (μ := (fun (x : { x : (Nat) × (Value) × (Value) // (x.1) ≤ n }) => n - (x.1.1))) (x := ⟨(i, vp, vl), hinv⟩) ⟨(i + 1, vp2, vl2), by omega⟩ ?_ ?_ ?_; (show n - (i + 1) < n - i; omega); (exact (by repeat (first | exact trivial | refine ⟨rfl, ?_⟩))); (exact Z.st_td (by repeat (first | with_reducible exact Z.Takes.nil | (apply Z.Takes.cons; (repeat (first | with_reducible exact Z.Take.here | apply Z.Take.there))))) (by repeat (first | with_reducible exact Z.Drop.nil | apply Z.Drop.cons)))) | (refine Z.j_nextG (X := { x : (Nat) × (Value) × (Value) // (x.1) ≤ n }) (EE := (fun (x : { x : (Nat) × (Value) × (Value) // (x.1) ≤ n }) => [(0, .slice p n cap), (1, v), (2, .int .i64 most), (7, .pointer (some ⟨b7, 0, none⟩)), (8, .pointer (some ⟨b8, 0, none⟩)), (34, .slice p n cap), (35, .int .i64 n), (36, .int .i64 ((x.1.1) : Nat))])) (LL := (fun (x : { x : (Nat) × (Value) × (Value) // (x.1) ≤ n }) => [RowP b7 (rt os (x.1.1)), Z.cl b8 33 [(x.1.2.1), (x.1.2.2)], OC (x.1.2.1) (xt os (x.1.1)), OB (x.1.2.2) (xt os (x.1.1))])) (μ := (fun (x : { x : (Nat) × (Value) × (Value) // (x.1) ≤ n }) => n - (x.1.1))) (x := ⟨(i, vp, vl), hinv⟩) ⟨(i + 1, vp, vl2), by omega⟩ ?_ ?_ ?_; (show n - (i + 1) < n - i; omega); (exact (by repeat (first | exact trivial | refine ⟨rfl, ?_⟩))); (exact Z.st_td (by repeat (first | with_reducible exact Z.Takes.nil | (apply Z.Takes.cons; (repeat (first | with_reducible exact Z.Take.here | apply Z.Take.there))))) (by repeat (first | with_reducible exact Z.Drop.nil | apply Z.Drop.cons)))) | (refine Z.j_nextG (X := { x : (Nat) × (Value) × (Value) // (x.1) ≤ n }) (EE := (fun (x : { x : (Nat) × (Value) × (Value) // (x.1) ≤ n }) => [(0, .slice p n cap), (1, v), (2, .int .i64 most), (7, .pointer (some ⟨b7, 0, none⟩)), (8, .pointer (some ⟨b8, 0, none⟩)), (34, .slice p n cap), (35, .int .i64 n), (36, .int .i64 ((x.1.1) : Nat))])) (LL := (fun (x : { x : (Nat) × (Value) × (Value) // (x.1) ≤ n }) => [RowP b7 (rt os (x.1.1)), Z.cl b8 33 [(x.1.2.1), (x.1.2.2)], OC (x.1.2.1) (xt os (x.1.1)), OB (x.1.2.2) (xt os (x.1.1))])) (μ := (fun (x : { x : (Nat) × (Value) × (Value) // (x.1) ≤ n }) => n - (x.1.1))) (x := ⟨(i, vp, vl), hinv⟩) ⟨(i + 1, vp, vl), by omega⟩ ?_ ?_ ?_; (show n - (i + 1) < n - i; omega); (exact (by repeat (first | exact trivial | refine ⟨rfl, ?_⟩))); (exact Z.st_td (by repeat (first | with_reducible exact Z.Takes.nil | (apply Z.Takes.cons; (repeat (first | with_reducible exact Z.Take.here | apply Z.Take.there))))) (by repeat (first | with_reducible exact Z.Drop.nil | apply Z.Drop.cons))))
                      · try (with_reducible first | replace hc46 := of_decide_eq_true hc46 | replace hc46 := of_decide_eq_false hc46 | replace hc46 := Z.nd_true hc46 | replace hc46 := Z.nd_false hc46 | replace hc46 := Z.nn_true hc46 | replace hc46 := Z.nn_false hc46 | replace hc46 := Z.nb_true hc46 | replace hc46 := Z.nb_false hc46)
                        first
                        | (exfalso; first | (cases hc46; done) | omega)
                        | skip
                          try (have hk01 : ¬ (os.getD i OpR.z).kd = 0 := hc46)
                          refine Z.j_seq ?_
                          refine Z.j_region ?_
                          refine Z.s_val (Z.pv_eql rfl rfl) ?_
                          refine Z.s_val (Z.pv_assign rfl) ?_
                          refine Z.j_nil ?_
                          refine Z.j_then ?_
                          refine Z.j_cond rfl (fun hc60 => ?_) (fun hc60 => ?_)
                          · try (with_reducible first | replace hc60 := of_decide_eq_true hc60 | replace hc60 := of_decide_eq_false hc60 | replace hc60 := Z.nd_true hc60 | replace hc60 := Z.nd_false hc60 | replace hc60 := Z.nn_true hc60 | replace hc60 := Z.nn_false hc60 | replace hc60 := Z.nb_true hc60 | replace hc60 := Z.nb_false hc60)
                            first
                            | (exfalso; first | (cases hc60; done) | omega)
                            | skip
                              refine Z.j_seq ?_
                              refine Z.j_region ?_
                              refine Z.s_val (Z.pv_loadA rfl (by repeat (first | with_reducible exact Z.Take.here | apply Z.Take.there)) Try.isAgg33 Try.sizeOf33 (by rfl)) ?_
                              refine Z.s_val (Z.pv_fieldAddr (o' := 1) rfl Try.underlying38 rfl Try.sizeOf36 rfl) ?_
                              refine Z.s_val (Z.pv_loadA rfl (by repeat (first | with_reducible exact Z.Take.here | apply Z.Take.there)) Try.isAgg36 Try.sizeOf36 (by rfl)) ?_
                              refine Z.s_call rfl rfl rfl isFn12 (by repeat (first | with_reducible exact Z.Takes.nil | (apply Z.Takes.cons; (repeat (first | with_reducible exact Z.Take.here | apply Z.Take.there))))) (xdrop_spec _ vp vl _ _ hR hps _ _) ?_
                              rintro _ _ ⟨vl2, rfl, rfl⟩
                              refine Z.j_app (by repeat (first | exact Z.App.nil | apply Z.App.cons)) ?_
                              refine Z.J.own_one (T := 36) (k := 2) (v := vp) (by repeat (first | with_reducible exact Z.Take.here | apply Z.Take.there)) (fun hv1 => ?_)
                              refine Z.J.own_one (T := 4) (k := 1) (v := vl2) (by repeat (first | with_reducible exact Z.Take.here | apply Z.Take.there)) (fun hv2 => ?_)
                              refine Z.s_storeA rfl rfl Try.sizeOf33 (ones2 hv1 hv2) (by repeat (first | with_reducible exact Z.Upd.here | apply Z.Upd.there)) (by rfl) ?_
                              refine Z.j_nil ?_
                              refine Z.j_then ?_
                              refine Z.j_region ?_
                              refine Z.s_val (Z.pv_fieldAddr (o' := 1) rfl Try.underlying38 rfl Try.sizeOf36 rfl) ?_
                              refine Z.s_val (Z.pv_loadA rfl (by repeat (first | with_reducible exact Z.Take.here | apply Z.Take.there)) Try.isAgg36 Try.sizeOf36 (by rfl)) ?_
                              refine Z.s_callD rfl rfl rfl isFn13 (by repeat (first | with_reducible exact Z.Takes.nil | (apply Z.Takes.cons; (repeat (first | with_reducible exact Z.Take.here | apply Z.Take.there))))) (by repeat (first | exact Z.App.nil | apply Z.App.cons)) (drop_spec _ _ (rt os i) _ _) ?_
                              refine Z.s_val (Z.pv_move rfl) ?_
                              refine Z.s_val (Z.pv_gtr rfl rfl) ?_
                              refine Z.s_val (Z.pv_eqlb rfl rfl Try.underlying4) ?_
                              refine Z.s_val (Z.pv_assign rfl) ?_
                              refine Z.s_is 12 rfl (show _ = Value.bool true from by rw [rel_pos hR]; exact same_b _) ?_
                              refine Z.j_nil ?_
                              refine Z.j_blk ?_
                              refine Z.j_then ?_
                              refine Z.j_seq ?_
                              obtain ⟨hok2, hla2, hKB2⟩ := rt_ok hos (i + 1) (by omega)
                              have hR2 := xt_rel hos (i + 1) (by omega)
                              have hps2 : (xt os (i + 1)).ps.length ≤ 60 := by have := hR2.last; omega
                              first
                              | (refine Z.j_cast (A := RowP b7 ((rt os i).put (⟨(os.getD i OpR.z).l, (os.getD i OpR.z).k⟩ : Cell))) (B := RowP b7 (rt os (i + 1))) (by repeat (first | with_reducible exact Z.Take.here | apply Z.Take.there)) (by rw [rt_put (by first | exact .inl hk00 | exact .inr hc46)]) ?_; refine Z.j_cast (A := OC vp2 ((xt os i).put (⟨(os.getD i OpR.z).l, (os.getD i OpR.z).k⟩ : Cell))) (B := OC vp2 (xt os (i + 1))) (by repeat (first | with_reducible exact Z.Take.here | apply Z.Take.there)) (by rw [xt_put (by first | exact .inl hk00 | exact .inr hc46)]) ?_; refine Z.j_cast (A := OB vl2 ((xt os i).put (⟨(os.getD i OpR.z).l, (os.getD i OpR.z).k⟩ : Cell))) (B := OB vl2 (xt os (i + 1))) (by repeat (first | with_reducible exact Z.Take.here | apply Z.Take.there)) (by rw [xt_put (by first | exact .inl hk00 | exact .inr hc46)]) ?_)
                              | (refine Z.j_cast (A := RowP b7 ((rt os i).drop (⟨(os.getD i OpR.z).l, (os.getD i OpR.z).k⟩ : Cell))) (B := RowP b7 (rt os (i + 1))) (by repeat (first | with_reducible exact Z.Take.here | apply Z.Take.there)) (by rw [rt_drop (not_or.2 ⟨hk01, hc46⟩) hc60]) ?_; refine Z.j_cast (A := OC vp ((xt os i).drop (⟨(os.getD i OpR.z).l, (os.getD i OpR.z).k⟩ : Cell))) (B := OC vp (xt os (i + 1))) (by repeat (first | with_reducible exact Z.Take.here | apply Z.Take.there)) (by rw [xt_drop (not_or.2 ⟨hk01, hc46⟩) hc60]) ?_; refine Z.j_cast (A := OB vl2 ((xt os i).drop (⟨(os.getD i OpR.z).l, (os.getD i OpR.z).k⟩ : Cell))) (B := OB vl2 (xt os (i + 1))) (by repeat (first | with_reducible exact Z.Take.here | apply Z.Take.there)) (by rw [xt_drop (not_or.2 ⟨hk01, hc46⟩) hc60]) ?_)
                              | (refine Z.j_cast (A := RowP b7 (rt os i)) (B := RowP b7 (rt os (i + 1))) (by repeat (first | with_reducible exact Z.Take.here | apply Z.Take.there)) (by rw [rt_same (not_or.2 ⟨hk01, hc46⟩) hc60]) ?_; refine Z.j_cast (A := OC vp (xt os i)) (B := OC vp (xt os (i + 1))) (by repeat (first | with_reducible exact Z.Take.here | apply Z.Take.there)) (by rw [xt_same (not_or.2 ⟨hk01, hc46⟩) hc60]) ?_; refine Z.j_cast (A := OB vl (xt os i)) (B := OB vl (xt os (i + 1))) (by repeat (first | with_reducible exact Z.Take.here | apply Z.Take.there)) (by rw [xt_same (not_or.2 ⟨hk01, hc46⟩) hc60]) ?_)
                              refine Z.j_region ?_
                              refine Z.s_val (Z.pv_fieldAddr (o' := 1) rfl Try.underlying38 rfl Try.sizeOf36 rfl) ?_
                              refine Z.s_val (Z.pv_loadA rfl (by repeat (first | with_reducible exact Z.Take.here | apply Z.Take.there)) Try.isAgg36 Try.sizeOf36 (by rfl)) ?_
                              refine Z.s_callD rfl rfl rfl isFn14 (by repeat (first | with_reducible exact Z.Takes.nil | (apply Z.Takes.cons; (repeat (first | with_reducible exact Z.Take.here | apply Z.Take.there))))) (by repeat (first | exact Z.App.nil | apply Z.App.cons)) (version_spec _ _ (rt os (i + 1)) _ _) ?_
                              refine Z.s_val (Z.pv_move rfl) ?_
                              refine Z.s_val (Z.pv_extract rfl rfl) ?_
                              refine Z.s_val (Z.pv_extract rfl rfl) ?_
                              refine Z.s_val (Z.pv_assign rfl) ?_
                              refine Z.s_val (Z.pv_assign rfl) ?_
                              refine Z.j_nil ?_
                              refine Z.j_then ?_
                              refine Z.j_seq ?_
                              refine Z.j_region ?_
                              refine Z.s_val (Z.pv_loadA rfl (by repeat (first | with_reducible exact Z.Take.here | apply Z.Take.there)) Try.isAgg33 Try.sizeOf33 (by rfl)) ?_
                              refine Z.s_val (Z.pv_fieldAddr (o' := 1) rfl Try.underlying38 rfl Try.sizeOf36 rfl) ?_
                              refine Z.s_val (Z.pv_loadA rfl (by repeat (first | with_reducible exact Z.Take.here | apply Z.Take.there)) Try.isAgg36 Try.sizeOf36 (by rfl)) ?_
                              refine Z.s_callD rfl rfl rfl isFn9 (by repeat (first | with_reducible exact Z.Takes.nil | (apply Z.Takes.cons; (repeat (first | with_reducible exact Z.Take.here | apply Z.Take.there))))) (by repeat (first | exact Z.App.nil | apply Z.App.cons)) (xver_spec _ _ _ _ _ hR2 hps2 _ _) ?_
                              refine Z.s_val (Z.pv_assign rfl) ?_
                              refine Z.j_nil ?_
                              refine Z.j_then ?_
                              refine Z.j_seq ?_
                              refine Z.j_draw (vals := [_, _, _, _, _, _, _, _, _, _, _, _, _, _, _, _, _, _, _, _, _, _, _, _, _, _, _, _, _]) 29 (by kernel_rfl) (by kernel_rfl) rfl (by rfl) (Z.heads_cons (Z.hq_val (Z.pv_move (by rfl))) (Z.heads_cons (Z.hq_val (Z.pv_not (by rfl))) (Z.heads_cons (Z.hq_val (Z.pv_move (by rfl))) (Z.heads_cons (Z.hq_val (Z.pv_move (by rfl))) (Z.heads_cons (Z.hq_val (Z.pv_move (by rfl))) (Z.heads_cons (Z.hq_val (Z.pv_is (Z.pv_neq (by rfl) (by rfl)) (show _ = Value.bool false from nsame_i _))) (Z.heads_cons (Z.hq_val (Z.pv_pick (by rfl) (by rfl))) (Z.heads_cons (Z.hq_val (Z.pv_move (by rfl))) (Z.heads_cons (Z.hq_val (Z.pv_move (by rfl))) (Z.heads_cons (Z.hq_val (Z.pv_move (by rfl))) (Z.heads_cons (Z.hq_val (Z.pv_gtr (by rfl) (by rfl))) (Z.heads_cons (Z.hq_val (Z.pv_is (Z.pv_neqb (by rfl) (by rfl) Try.underlying4) (show _ = Value.bool false from by rw [rel_pos hR2]; exact nsame_b _))) (Z.heads_cons (Z.hq_val (Z.pv_pick (by rfl) (by rfl))) (Z.heads_cons (Z.hq_val (Z.pv_move (by rfl))) (Z.heads_cons (Z.hq_val (Z.pv_fieldAddr (o' := 1) (by rfl) Try.underlying38 (by rfl) (by exact Try.sizeOf36) (by rfl))) (Z.heads_cons (Z.hq_val (Z.pv_loadA (by rfl) (by repeat (first | with_reducible exact Z.Take.here | apply Z.Take.there)) Try.isAgg36 (by exact Try.sizeOf36) (by rfl))) (Z.heads_cons (Z.hq_callD (by rfl) (by rfl) (by rfl) isFn15 (by repeat (first | with_reducible exact Z.Takes.nil | (apply Z.Takes.cons; (repeat (first | with_reducible exact Z.Take.here | apply Z.Take.there))))) (by repeat (first | with_reducible exact Z.Takes.nil | (apply Z.Takes.cons; (repeat (first | with_reducible exact Z.Take.here | apply Z.Take.there))))) (seen_spec _ _ (rt os (i + 1)) _ _)) (Z.heads_cons (Z.hq_val (Z.pv_loadA (by rfl) (by repeat (first | with_reducible exact Z.Take.here | apply Z.Take.there)) Try.isAgg33 (by exact Try.sizeOf33) (by rfl))) (Z.heads_cons (Z.hq_val (Z.pv_fieldAddr (o' := 1) (by rfl) Try.underlying38 (by rfl) (by exact Try.sizeOf36) (by rfl))) (Z.heads_cons (Z.hq_val (Z.pv_loadA (by rfl) (by repeat (first | with_reducible exact Z.Take.here | apply Z.Take.there)) Try.isAgg36 (by exact Try.sizeOf36) (by rfl))) (Z.heads_cons (Z.hq_callD (by rfl) (by rfl) (by rfl) isFn16 (by repeat (first | with_reducible exact Z.Takes.nil | (apply Z.Takes.cons; (repeat (first | with_reducible exact Z.Take.here | apply Z.Take.there))))) (by repeat (first | with_reducible exact Z.Takes.nil | (apply Z.Takes.cons; (repeat (first | with_reducible exact Z.Take.here | apply Z.Take.there))))) (xseen_spec _ _ _ _ _ hR2 hps2 _ _)) (Z.heads_cons (Z.hq_val (Z.pv_is (Z.pv_neqb (by rfl) (by rfl) Try.underlying4) (show _ = Value.bool false from nsame_b _))) (Z.heads_cons (Z.hq_val (Z.pv_pick (by rfl) (by rfl))) (Z.heads_cons (Z.hq_val (Z.pv_move (by rfl))) (Z.heads_cons (Z.hq_callD (by rfl) (by rfl) (by rfl) isFn17 (by repeat (first | with_reducible exact Z.Takes.nil | (apply Z.Takes.cons; (repeat (first | with_reducible exact Z.Take.here | apply Z.Take.there))))) (by repeat (first | with_reducible exact Z.Takes.nil | (apply Z.Takes.cons; (repeat (first | with_reducible exact Z.Take.here | apply Z.Take.there))))) (ever_spec _ _ (rt os (i + 1)))) (Z.heads_cons (Z.hq_val (Z.pv_loadA (by rfl) (by repeat (first | with_reducible exact Z.Take.here | apply Z.Take.there)) Try.isAgg33 (by exact Try.sizeOf33) (by rfl))) (Z.heads_cons (Z.hq_callD (by rfl) (by rfl) (by rfl) isFn18 (by repeat (first | with_reducible exact Z.Takes.nil | (apply Z.Takes.cons; (repeat (first | with_reducible exact Z.Take.here | apply Z.Take.there))))) (by repeat (first | with_reducible exact Z.Takes.nil | (apply Z.Takes.cons; (repeat (first | with_reducible exact Z.Take.here | apply Z.Take.there))))) (xever_spec _ _ _ _ _ hR2 hps2)) (Z.heads_cons (Z.hq_val (Z.pv_is (Z.pv_neq (by rfl) (by rfl)) (show _ = Value.bool false from nsame_i _))) (Z.heads_cons (Z.hq_val (Z.pv_pick (by rfl) (by rfl))) Z.heads_nil))))))))))))))))))))))))))))) ?_
                              refine Z.j_nil ?_
                              refine Z.j_then ?_
                              refine Z.j_cond rfl (fun hc110 => ?_) (fun hc110 => ?_)
                              · try (with_reducible first | replace hc110 := of_decide_eq_true hc110 | replace hc110 := of_decide_eq_false hc110 | replace hc110 := Z.nd_true hc110 | replace hc110 := Z.nd_false hc110 | replace hc110 := Z.nn_true hc110 | replace hc110 := Z.nn_false hc110 | replace hc110 := Z.nb_true hc110 | replace hc110 := Z.nb_false hc110)
                                first
                                | (exfalso; first | (cases hc110; done) | omega)
                                | skip
                                  refine Z.j_seq ?_
                                  refine Z.j_region ?_
                                  refine Z.s_val (Z.pv_assign rfl) ?_
                                  refine Z.j_nil ?_
                                  refine Z.j_then ?_
                                  refine Z.j_ret ?_
                                  refine Z.j_blk_ret ?_
                                  refine Z.j_then_ret ?_
                                  refine Z.j_then_ret ?_
                                  refine Z.j_blk_ret ?_
                                  refine Z.j_then_ret ?_
                                  refine Z.j_doneM_ret (bs := []) .nil (Z.rv1 (Z.rv_tmp (t := 6) rfl)) ?_
                                  exact Z.post_of ⟨rfl, rfl⟩ (by repeat (first | with_reducible exact Z.Takes.nil | (apply Z.Takes.cons; (repeat (first | with_reducible exact Z.Take.here | apply Z.Take.there))))) (by repeat (first | with_reducible exact Z.Drop.nil | apply Z.Drop.cons))
                              · try (with_reducible first | replace hc110 := of_decide_eq_true hc110 | replace hc110 := of_decide_eq_false hc110 | replace hc110 := Z.nd_true hc110 | replace hc110 := Z.nd_false hc110 | replace hc110 := Z.nn_true hc110 | replace hc110 := Z.nn_false hc110 | replace hc110 := Z.nb_true hc110 | replace hc110 := Z.nb_false hc110)
                                first
                                | (exfalso; first | (cases hc110; done) | omega)
                                | skip
                                  refine Z.j_skip ?_
                                  refine Z.j_blk ?_
                                  refine Z.j_then ?_
                                  refine Z.j_region ?_
                                  refine Z.s_val (Z.pv_add rfl rfl (by first | exact IntWalk.i64_in _ (by omega) | rfl)) ?_
                                  refine Z.s_val (Z.pv_move rfl) ?_
                                  refine Z.j_nil ?_
                                  refine Z.j_then ?_
                                  first | (refine Z.j_nextG (X := { x : (Nat) × (Value) × (Value) // (x.1) ≤ n }) (EE := (fun (x : { x : (Nat) × (Value) × (Value) // (x.1) ≤ n }) => [(0, .slice p n cap), (1, v), (2, .int .i64 most), (7, .pointer (some ⟨b7, 0, none⟩)), (8, .pointer (some ⟨b8, 0, none⟩)), (34, .slice p n cap), (35, .int .i64 n), (36, .int .i64 ((x.1.1) : Nat))])) (LL := (fun (x : { x : (Nat) × (Value) × (Value) // (x.1) ≤ n }) => [RowP b7 (rt os (x.1.1)), Z.cl b8 33 [(x.1.2.1), (x.1.2.2)], OC (x.1.2.1) (xt os (x.1.1)), OB (x.1.2.2) (xt os (x.1.1))])) (μ := (fun (x : { x : (Nat) × (Value) × (Value) // (x.1) ≤ n }) => n - (x.1.1))) (x := ⟨(i, vp, vl), hinv⟩) ⟨(i + 1, vp2, vl2), by omega⟩ ?_ ?_ ?_; (show n - (i + 1) < n - i; omega); (exact (by repeat (first | exact trivial | refine ⟨rfl, ?_⟩))); (exact Z.st_td (by repeat (first | with_reducible exact Z.Takes.nil | (apply Z.Takes.cons; (repeat (first | with_reducible exact Z.Take.here | apply Z.Take.there))))) (by repeat (first | with_reducible exact Z.Drop.nil | apply Z.Drop.cons)))) | (refine Z.j_nextG (X := { x : (Nat) × (Value) × (Value) // (x.1) ≤ n }) (EE := (fun (x : { x : (Nat) × (Value) × (Value) // (x.1) ≤ n }) => [(0, .slice p n cap), (1, v), (2, .int .i64 most), (7, .pointer (some ⟨b7, 0, none⟩)), (8, .pointer (some ⟨b8, 0, none⟩)), (34, .slice p n cap), (35, .int .i64 n), (36, .int .i64 ((x.1.1) : Nat))])) (LL := (fun (x : { x : (Nat) × (Value) × (Value) // (x.1) ≤ n }) => [RowP b7 (rt os (x.1.1)), Z.cl b8 33 [(x.1.2.1), (x.1.2.2)], OC (x.1.2.1) (xt os (x.1.1)), OB (x.1.2.2) (xt os (x.1.1))])) (μ := (fun (x : { x : (Nat) × (Value) × (Value) // (x.1) ≤ n }) => n - (x.1.1))) (x := ⟨(i, vp, vl), hinv⟩) ⟨(i + 1, vp, vl2), by omega⟩ ?_ ?_ ?_; (show n - (i + 1) < n - i; omega); (exact (by repeat (first | exact trivial | refine ⟨rfl, ?_⟩))); (exact Z.st_td (by repeat (first | with_reducible exact Z.Takes.nil | (apply Z.Takes.cons; (repeat (first | with_reducible exact Z.Take.here | apply Z.Take.there))))) (by repeat (first | with_reducible exact Z.Drop.nil | apply Z.Drop.cons)))) | (refine Z.j_nextG (X := { x : (Nat) × (Value) × (Value) // (x.1) ≤ n }) (EE := (fun (x : { x : (Nat) × (Value) × (Value) // (x.1) ≤ n }) => [(0, .slice p n cap), (1, v), (2, .int .i64 most), (7, .pointer (some ⟨b7, 0, none⟩)), (8, .pointer (some ⟨b8, 0, none⟩)), (34, .slice p n cap), (35, .int .i64 n), (36, .int .i64 ((x.1.1) : Nat))])) (LL := (fun (x : { x : (Nat) × (Value) × (Value) // (x.1) ≤ n }) => [RowP b7 (rt os (x.1.1)), Z.cl b8 33 [(x.1.2.1), (x.1.2.2)], OC (x.1.2.1) (xt os (x.1.1)), OB (x.1.2.2) (xt os (x.1.1))])) (μ := (fun (x : { x : (Nat) × (Value) × (Value) // (x.1) ≤ n }) => n - (x.1.1))) (x := ⟨(i, vp, vl), hinv⟩) ⟨(i + 1, vp, vl), by omega⟩ ?_ ?_ ?_; (show n - (i + 1) < n - i; omega); (exact (by repeat (first | exact trivial | refine ⟨rfl, ?_⟩))); (exact Z.st_td (by repeat (first | with_reducible exact Z.Takes.nil | (apply Z.Takes.cons; (repeat (first | with_reducible exact Z.Take.here | apply Z.Take.there))))) (by repeat (first | with_reducible exact Z.Drop.nil | apply Z.Drop.cons))))
                          · try (with_reducible first | replace hc60 := of_decide_eq_true hc60 | replace hc60 := of_decide_eq_false hc60 | replace hc60 := Z.nd_true hc60 | replace hc60 := Z.nd_false hc60 | replace hc60 := Z.nn_true hc60 | replace hc60 := Z.nn_false hc60 | replace hc60 := Z.nb_true hc60 | replace hc60 := Z.nb_false hc60)
                            first
                            | (exfalso; first | (cases hc60; done) | omega)
                            | skip
                              refine Z.j_skip ?_
                              refine Z.j_blk ?_
                              refine Z.j_then ?_
                              refine Z.j_seq ?_
                              obtain ⟨hok2, hla2, hKB2⟩ := rt_ok hos (i + 1) (by omega)
                              have hR2 := xt_rel hos (i + 1) (by omega)
                              have hps2 : (xt os (i + 1)).ps.length ≤ 60 := by have := hR2.last; omega
                              first
                              | (refine Z.j_cast (A := RowP b7 ((rt os i).put (⟨(os.getD i OpR.z).l, (os.getD i OpR.z).k⟩ : Cell))) (B := RowP b7 (rt os (i + 1))) (by repeat (first | with_reducible exact Z.Take.here | apply Z.Take.there)) (by rw [rt_put (by first | exact .inl hk00 | exact .inr hc46)]) ?_; refine Z.j_cast (A := OC vp2 ((xt os i).put (⟨(os.getD i OpR.z).l, (os.getD i OpR.z).k⟩ : Cell))) (B := OC vp2 (xt os (i + 1))) (by repeat (first | with_reducible exact Z.Take.here | apply Z.Take.there)) (by rw [xt_put (by first | exact .inl hk00 | exact .inr hc46)]) ?_; refine Z.j_cast (A := OB vl2 ((xt os i).put (⟨(os.getD i OpR.z).l, (os.getD i OpR.z).k⟩ : Cell))) (B := OB vl2 (xt os (i + 1))) (by repeat (first | with_reducible exact Z.Take.here | apply Z.Take.there)) (by rw [xt_put (by first | exact .inl hk00 | exact .inr hc46)]) ?_)
                              | (refine Z.j_cast (A := RowP b7 ((rt os i).drop (⟨(os.getD i OpR.z).l, (os.getD i OpR.z).k⟩ : Cell))) (B := RowP b7 (rt os (i + 1))) (by repeat (first | with_reducible exact Z.Take.here | apply Z.Take.there)) (by rw [rt_drop (not_or.2 ⟨hk01, hc46⟩) hc60]) ?_; refine Z.j_cast (A := OC vp ((xt os i).drop (⟨(os.getD i OpR.z).l, (os.getD i OpR.z).k⟩ : Cell))) (B := OC vp (xt os (i + 1))) (by repeat (first | with_reducible exact Z.Take.here | apply Z.Take.there)) (by rw [xt_drop (not_or.2 ⟨hk01, hc46⟩) hc60]) ?_; refine Z.j_cast (A := OB vl2 ((xt os i).drop (⟨(os.getD i OpR.z).l, (os.getD i OpR.z).k⟩ : Cell))) (B := OB vl2 (xt os (i + 1))) (by repeat (first | with_reducible exact Z.Take.here | apply Z.Take.there)) (by rw [xt_drop (not_or.2 ⟨hk01, hc46⟩) hc60]) ?_)
                              | (refine Z.j_cast (A := RowP b7 (rt os i)) (B := RowP b7 (rt os (i + 1))) (by repeat (first | with_reducible exact Z.Take.here | apply Z.Take.there)) (by rw [rt_same (not_or.2 ⟨hk01, hc46⟩) hc60]) ?_; refine Z.j_cast (A := OC vp (xt os i)) (B := OC vp (xt os (i + 1))) (by repeat (first | with_reducible exact Z.Take.here | apply Z.Take.there)) (by rw [xt_same (not_or.2 ⟨hk01, hc46⟩) hc60]) ?_; refine Z.j_cast (A := OB vl (xt os i)) (B := OB vl (xt os (i + 1))) (by repeat (first | with_reducible exact Z.Take.here | apply Z.Take.there)) (by rw [xt_same (not_or.2 ⟨hk01, hc46⟩) hc60]) ?_)
                              refine Z.j_region ?_
                              refine Z.s_val (Z.pv_fieldAddr (o' := 1) rfl Try.underlying38 rfl Try.sizeOf36 rfl) ?_
                              refine Z.s_val (Z.pv_loadA rfl (by repeat (first | with_reducible exact Z.Take.here | apply Z.Take.there)) Try.isAgg36 Try.sizeOf36 (by rfl)) ?_
                              refine Z.s_callD rfl rfl rfl isFn14 (by repeat (first | with_reducible exact Z.Takes.nil | (apply Z.Takes.cons; (repeat (first | with_reducible exact Z.Take.here | apply Z.Take.there))))) (by repeat (first | exact Z.App.nil | apply Z.App.cons)) (version_spec _ _ (rt os (i + 1)) _ _) ?_
                              refine Z.s_val (Z.pv_move rfl) ?_
                              refine Z.s_val (Z.pv_extract rfl rfl) ?_
                              refine Z.s_val (Z.pv_extract rfl rfl) ?_
                              refine Z.s_val (Z.pv_assign rfl) ?_
                              refine Z.s_val (Z.pv_assign rfl) ?_
                              refine Z.j_nil ?_
                              refine Z.j_then ?_
                              refine Z.j_seq ?_
                              refine Z.j_region ?_
                              refine Z.s_val (Z.pv_loadA rfl (by repeat (first | with_reducible exact Z.Take.here | apply Z.Take.there)) Try.isAgg33 Try.sizeOf33 (by rfl)) ?_
                              refine Z.s_val (Z.pv_fieldAddr (o' := 1) rfl Try.underlying38 rfl Try.sizeOf36 rfl) ?_
                              refine Z.s_val (Z.pv_loadA rfl (by repeat (first | with_reducible exact Z.Take.here | apply Z.Take.there)) Try.isAgg36 Try.sizeOf36 (by rfl)) ?_
                              refine Z.s_callD rfl rfl rfl isFn9 (by repeat (first | with_reducible exact Z.Takes.nil | (apply Z.Takes.cons; (repeat (first | with_reducible exact Z.Take.here | apply Z.Take.there))))) (by repeat (first | exact Z.App.nil | apply Z.App.cons)) (xver_spec _ _ _ _ _ hR2 hps2 _ _) ?_
                              refine Z.s_val (Z.pv_assign rfl) ?_
                              refine Z.j_nil ?_
                              refine Z.j_then ?_
                              refine Z.j_seq ?_
                              refine Z.j_draw (vals := [_, _, _, _, _, _, _, _, _, _, _, _, _, _, _, _, _, _, _, _, _, _, _, _, _, _, _, _, _]) 29 (by kernel_rfl) (by kernel_rfl) rfl (by rfl) (Z.heads_cons (Z.hq_val (Z.pv_move (by rfl))) (Z.heads_cons (Z.hq_val (Z.pv_not (by rfl))) (Z.heads_cons (Z.hq_val (Z.pv_move (by rfl))) (Z.heads_cons (Z.hq_val (Z.pv_move (by rfl))) (Z.heads_cons (Z.hq_val (Z.pv_move (by rfl))) (Z.heads_cons (Z.hq_val (Z.pv_is (Z.pv_neq (by rfl) (by rfl)) (show _ = Value.bool false from nsame_i _))) (Z.heads_cons (Z.hq_val (Z.pv_pick (by rfl) (by rfl))) (Z.heads_cons (Z.hq_val (Z.pv_move (by rfl))) (Z.heads_cons (Z.hq_val (Z.pv_move (by rfl))) (Z.heads_cons (Z.hq_val (Z.pv_move (by rfl))) (Z.heads_cons (Z.hq_val (Z.pv_gtr (by rfl) (by rfl))) (Z.heads_cons (Z.hq_val (Z.pv_is (Z.pv_neqb (by rfl) (by rfl) Try.underlying4) (show _ = Value.bool false from by rw [rel_pos hR2]; exact nsame_b _))) (Z.heads_cons (Z.hq_val (Z.pv_pick (by rfl) (by rfl))) (Z.heads_cons (Z.hq_val (Z.pv_move (by rfl))) (Z.heads_cons (Z.hq_val (Z.pv_fieldAddr (o' := 1) (by rfl) Try.underlying38 (by rfl) (by exact Try.sizeOf36) (by rfl))) (Z.heads_cons (Z.hq_val (Z.pv_loadA (by rfl) (by repeat (first | with_reducible exact Z.Take.here | apply Z.Take.there)) Try.isAgg36 (by exact Try.sizeOf36) (by rfl))) (Z.heads_cons (Z.hq_callD (by rfl) (by rfl) (by rfl) isFn15 (by repeat (first | with_reducible exact Z.Takes.nil | (apply Z.Takes.cons; (repeat (first | with_reducible exact Z.Take.here | apply Z.Take.there))))) (by repeat (first | with_reducible exact Z.Takes.nil | (apply Z.Takes.cons; (repeat (first | with_reducible exact Z.Take.here | apply Z.Take.there))))) (seen_spec _ _ (rt os (i + 1)) _ _)) (Z.heads_cons (Z.hq_val (Z.pv_loadA (by rfl) (by repeat (first | with_reducible exact Z.Take.here | apply Z.Take.there)) Try.isAgg33 (by exact Try.sizeOf33) (by rfl))) (Z.heads_cons (Z.hq_val (Z.pv_fieldAddr (o' := 1) (by rfl) Try.underlying38 (by rfl) (by exact Try.sizeOf36) (by rfl))) (Z.heads_cons (Z.hq_val (Z.pv_loadA (by rfl) (by repeat (first | with_reducible exact Z.Take.here | apply Z.Take.there)) Try.isAgg36 (by exact Try.sizeOf36) (by rfl))) (Z.heads_cons (Z.hq_callD (by rfl) (by rfl) (by rfl) isFn16 (by repeat (first | with_reducible exact Z.Takes.nil | (apply Z.Takes.cons; (repeat (first | with_reducible exact Z.Take.here | apply Z.Take.there))))) (by repeat (first | with_reducible exact Z.Takes.nil | (apply Z.Takes.cons; (repeat (first | with_reducible exact Z.Take.here | apply Z.Take.there))))) (xseen_spec _ _ _ _ _ hR2 hps2 _ _)) (Z.heads_cons (Z.hq_val (Z.pv_is (Z.pv_neqb (by rfl) (by rfl) Try.underlying4) (show _ = Value.bool false from nsame_b _))) (Z.heads_cons (Z.hq_val (Z.pv_pick (by rfl) (by rfl))) (Z.heads_cons (Z.hq_val (Z.pv_move (by rfl))) (Z.heads_cons (Z.hq_callD (by rfl) (by rfl) (by rfl) isFn17 (by repeat (first | with_reducible exact Z.Takes.nil | (apply Z.Takes.cons; (repeat (first | with_reducible exact Z.Take.here | apply Z.Take.there))))) (by repeat (first | with_reducible exact Z.Takes.nil | (apply Z.Takes.cons; (repeat (first | with_reducible exact Z.Take.here | apply Z.Take.there))))) (ever_spec _ _ (rt os (i + 1)))) (Z.heads_cons (Z.hq_val (Z.pv_loadA (by rfl) (by repeat (first | with_reducible exact Z.Take.here | apply Z.Take.there)) Try.isAgg33 (by exact Try.sizeOf33) (by rfl))) (Z.heads_cons (Z.hq_callD (by rfl) (by rfl) (by rfl) isFn18 (by repeat (first | with_reducible exact Z.Takes.nil | (apply Z.Takes.cons; (repeat (first | with_reducible exact Z.Take.here | apply Z.Take.there))))) (by repeat (first | with_reducible exact Z.Takes.nil | (apply Z.Takes.cons; (repeat (first | with_reducible exact Z.Take.here | apply Z.Take.there))))) (xever_spec _ _ _ _ _ hR2 hps2)) (Z.heads_cons (Z.hq_val (Z.pv_is (Z.pv_neq (by rfl) (by rfl)) (show _ = Value.bool false from nsame_i _))) (Z.heads_cons (Z.hq_val (Z.pv_pick (by rfl) (by rfl))) Z.heads_nil))))))))))))))))))))))))))))) ?_
                              refine Z.j_nil ?_
                              refine Z.j_then ?_
                              refine Z.j_cond rfl (fun hc110 => ?_) (fun hc110 => ?_)
                              · try (with_reducible first | replace hc110 := of_decide_eq_true hc110 | replace hc110 := of_decide_eq_false hc110 | replace hc110 := Z.nd_true hc110 | replace hc110 := Z.nd_false hc110 | replace hc110 := Z.nn_true hc110 | replace hc110 := Z.nn_false hc110 | replace hc110 := Z.nb_true hc110 | replace hc110 := Z.nb_false hc110)
                                first
                                | (exfalso; first | (cases hc110; done) | omega)
                                | skip
                                  refine Z.j_seq ?_
                                  refine Z.j_region ?_
                                  refine Z.s_val (Z.pv_assign rfl) ?_
                                  refine Z.j_nil ?_
                                  refine Z.j_then ?_
                                  refine Z.j_ret ?_
                                  refine Z.j_blk_ret ?_
                                  refine Z.j_then_ret ?_
                                  refine Z.j_then_ret ?_
                                  refine Z.j_blk_ret ?_
                                  refine Z.j_then_ret ?_
                                  refine Z.j_doneM_ret (bs := []) .nil (Z.rv1 (Z.rv_tmp (t := 6) rfl)) ?_
                                  exact Z.post_of ⟨rfl, rfl⟩ (by repeat (first | with_reducible exact Z.Takes.nil | (apply Z.Takes.cons; (repeat (first | with_reducible exact Z.Take.here | apply Z.Take.there))))) (by repeat (first | with_reducible exact Z.Drop.nil | apply Z.Drop.cons))
                              · try (with_reducible first | replace hc110 := of_decide_eq_true hc110 | replace hc110 := of_decide_eq_false hc110 | replace hc110 := Z.nd_true hc110 | replace hc110 := Z.nd_false hc110 | replace hc110 := Z.nn_true hc110 | replace hc110 := Z.nn_false hc110 | replace hc110 := Z.nb_true hc110 | replace hc110 := Z.nb_false hc110)
                                first
                                | (exfalso; first | (cases hc110; done) | omega)
                                | skip
                                  refine Z.j_skip ?_
                                  refine Z.j_blk ?_
                                  refine Z.j_then ?_
                                  refine Z.j_region ?_
                                  refine Z.s_val (Z.pv_add rfl rfl (by first | exact IntWalk.i64_in _ (by omega) | rfl)) ?_
                                  refine Z.s_val (Z.pv_move rfl) ?_
                                  refine Z.j_nil ?_
                                  refine Z.j_then ?_
                                  first | (refine Z.j_nextG (X := { x : (Nat) × (Value) × (Value) // (x.1) ≤ n }) (EE := (fun (x : { x : (Nat) × (Value) × (Value) // (x.1) ≤ n }) => [(0, .slice p n cap), (1, v), (2, .int .i64 most), (7, .pointer (some ⟨b7, 0, none⟩)), (8, .pointer (some ⟨b8, 0, none⟩)), (34, .slice p n cap), (35, .int .i64 n), (36, .int .i64 ((x.1.1) : Nat))])) (LL := (fun (x : { x : (Nat) × (Value) × (Value) // (x.1) ≤ n }) => [RowP b7 (rt os (x.1.1)), Z.cl b8 33 [(x.1.2.1), (x.1.2.2)], OC (x.1.2.1) (xt os (x.1.1)), OB (x.1.2.2) (xt os (x.1.1))])) (μ := (fun (x : { x : (Nat) × (Value) × (Value) // (x.1) ≤ n }) => n - (x.1.1))) (x := ⟨(i, vp, vl), hinv⟩) ⟨(i + 1, vp2, vl2), by omega⟩ ?_ ?_ ?_; (show n - (i + 1) < n - i; omega); (exact (by repeat (first | exact trivial | refine ⟨rfl, ?_⟩))); (exact Z.st_td (by repeat (first | with_reducible exact Z.Takes.nil | (apply Z.Takes.cons; (repeat (first | with_reducible exact Z.Take.here | apply Z.Take.there))))) (by repeat (first | with_reducible exact Z.Drop.nil | apply Z.Drop.cons)))) | (refine Z.j_nextG (X := { x : (Nat) × (Value) × (Value) // (x.1) ≤ n }) (EE := (fun (x : { x : (Nat) × (Value) × (Value) // (x.1) ≤ n }) => [(0, .slice p n cap), (1, v), (2, .int .i64 most), (7, .pointer (some ⟨b7, 0, none⟩)), (8, .pointer (some ⟨b8, 0, none⟩)), (34, .slice p n cap), (35, .int .i64 n), (36, .int .i64 ((x.1.1) : Nat))])) (LL := (fun (x : { x : (Nat) × (Value) × (Value) // (x.1) ≤ n }) => [RowP b7 (rt os (x.1.1)), Z.cl b8 33 [(x.1.2.1), (x.1.2.2)], OC (x.1.2.1) (xt os (x.1.1)), OB (x.1.2.2) (xt os (x.1.1))])) (μ := (fun (x : { x : (Nat) × (Value) × (Value) // (x.1) ≤ n }) => n - (x.1.1))) (x := ⟨(i, vp, vl), hinv⟩) ⟨(i + 1, vp, vl2), by omega⟩ ?_ ?_ ?_; (show n - (i + 1) < n - i; omega); (exact (by repeat (first | exact trivial | refine ⟨rfl, ?_⟩))); (exact Z.st_td (by repeat (first | with_reducible exact Z.Takes.nil | (apply Z.Takes.cons; (repeat (first | with_reducible exact Z.Take.here | apply Z.Take.there))))) (by repeat (first | with_reducible exact Z.Drop.nil | apply Z.Drop.cons)))) | (refine Z.j_nextG (X := { x : (Nat) × (Value) × (Value) // (x.1) ≤ n }) (EE := (fun (x : { x : (Nat) × (Value) × (Value) // (x.1) ≤ n }) => [(0, .slice p n cap), (1, v), (2, .int .i64 most), (7, .pointer (some ⟨b7, 0, none⟩)), (8, .pointer (some ⟨b8, 0, none⟩)), (34, .slice p n cap), (35, .int .i64 n), (36, .int .i64 ((x.1.1) : Nat))])) (LL := (fun (x : { x : (Nat) × (Value) × (Value) // (x.1) ≤ n }) => [RowP b7 (rt os (x.1.1)), Z.cl b8 33 [(x.1.2.1), (x.1.2.2)], OC (x.1.2.1) (xt os (x.1.1)), OB (x.1.2.2) (xt os (x.1.1))])) (μ := (fun (x : { x : (Nat) × (Value) × (Value) // (x.1) ≤ n }) => n - (x.1.1))) (x := ⟨(i, vp, vl), hinv⟩) ⟨(i + 1, vp, vl), by omega⟩ ?_ ?_ ?_; (show n - (i + 1) < n - i; omega); (exact (by repeat (first | exact trivial | refine ⟨rfl, ?_⟩))); (exact Z.st_td (by repeat (first | with_reducible exact Z.Takes.nil | (apply Z.Takes.cons; (repeat (first | with_reducible exact Z.Take.here | apply Z.Take.there))))) (by repeat (first | with_reducible exact Z.Drop.nil | apply Z.Drop.cons))))
              · try (with_reducible first | replace hc37 := of_decide_eq_true hc37 | replace hc37 := of_decide_eq_false hc37 | replace hc37 := Z.nd_true hc37 | replace hc37 := Z.nd_false hc37 | replace hc37 := Z.nn_true hc37 | replace hc37 := Z.nn_false hc37 | replace hc37 := Z.nb_true hc37 | replace hc37 := Z.nb_false hc37)
                first
                | (exfalso; first | (cases hc37; done) | omega)
                | skip
                  have hin : i = n := by omega
                  subst hin
                  obtain ⟨hok, hla0, hKB⟩ := rt_ok hos i (by omega)
                  have hR := xt_rel hos i (by omega)
                  have h60 : (xt os i).ps.length ≤ 60 := by have := hR.last; omega
                  obtain ⟨r, hr0⟩ : ∃ r, rt os i = r := ⟨_, rfl⟩
                  obtain ⟨xq, hx0⟩ : ∃ q, xt os i = q := ⟨_, rfl⟩
                  rw [hr0] at hok hla0 hKB hR
                  rw [hx0] at hR h60
                  rw [hr0, hx0]
                  have hl0 := hok.l0
                  have hlen := hok.len
                  have hss := ss1000 (ver := r.ver) (by omega)
                  have hvl := ver_len hok hR
                  have hil0 : (inA r.ver a).length ≤ r.ver.length := by rw [← outs_end (Nat.le_refl _)]; exact outs_len _ _ _
                  have hil : (inA r.ver a).length ≤ 1000 := by omega
                  obtain ⟨hb1, hb2⟩ := and_bd most 7 (by decide) (by decide)
                  obtain ⟨m0, hm0⟩ : ∃ m0, Z.bitsOf .and .i64 most 7 = m0 := ⟨_, rfl⟩
                  rw [hm0] at hb1 hb2
                  have hmin := ss_len r.ver hb1
                  rw [hvl] at hmin
                  refine Z.j_exit ?_
                  refine Z.j_then_exit ?_
                  refine Z.j_then_exit ?_
                  refine Z.j_blk_here rfl ?_
                  refine Z.j_then ?_
                  refine Z.j_seq ?_
                  refine Z.j_region ?_
                  refine Z.s_call rfl rfl rfl isFn19 (by repeat (first | with_reducible exact Z.Takes.nil | (apply Z.Takes.cons; (repeat (first | with_reducible exact Z.Take.here | apply Z.Take.there))))) (cells_spec _ _ r 1000 hok) ?_
                  rintro _ _ ⟨vx, vy, rfl, rfl⟩
                  refine Z.j_app (by repeat (first | exact Z.App.nil | apply Z.App.cons)) ?_
                  refine Z.s_val (Z.pv_move rfl) ?_
                  refine Z.s_val (Z.pv_extract rfl rfl) ?_
                  refine Z.s_val (Z.pv_extract rfl rfl) ?_
                  refine Z.s_val (Z.pv_assign rfl) ?_
                  refine Z.s_val (Z.pv_assign rfl) ?_
                  refine Z.j_nil ?_
                  refine Z.j_then ?_
                  refine Z.j_seq ?_
                  rw [hss, pairs_fst, pairs_snd, pairsR_len]
                  refine Z.j_region ?_
                  refine Z.s_val (Z.pv_assign rfl) ?_
                  refine Z.j_nil ?_
                  refine Z.j_then ?_
                  refine Z.j_seq ?_
                  refine Z.j_seq ?_
                  refine Z.j_region ?_
                  refine Z.s_val (Z.pv_fieldAddr (o' := 0) rfl Try.underlying33 rfl Try.sizeOf30 rfl) ?_
                  refine Z.s_val (Z.pv_load1 rfl (by repeat (first | with_reducible exact Z.Take.here | apply Z.Take.there)) Try.isAgg30 (by rfl)) ?_
                  refine Z.s_val (Z.pv_lenO rfl (by repeat (first | with_reducible exact Z.Take.here | apply Z.Take.there)) Try.underlying30) ?_
                  refine Z.s_val (Z.pv_move rfl) ?_
                  refine Z.j_nil ?_
                  refine Z.j_then ?_
                  refine Z.j_block ?_
                  refine Z.j_initF (E' := [(1, v), (2, .int .i64 most), (7, .pointer (some ⟨b7, 0, none⟩)), (8, .pointer (some ⟨b8, 0, none⟩)), (16, vx), (17, vy), (18, .int .i64 ((LI xq (0)).length : Nat)), (117, vp), (118, .int .i64 xq.ps.length), (119, .int .i64 ((0) : Nat))]) (As := [RowP b7 r, Z.cl b8 33 [vp, vl], OC vp xq, OB vl xq, Z.Own 36 2 vx r.ver.length ((sortC r.ver).flatMap Cell.c), Z.Own 3 1 vy r.ver.length (i64s ((sortC r.ver).map (fV r.ver)))]) (Fr := Fr) (by repeat (first | exact trivial | refine ⟨rfl, ?_⟩)) (by repeat (first | with_reducible exact Z.Takes.nil | (apply Z.Takes.cons; (repeat (first | with_reducible exact Z.Take.here | apply Z.Take.there))))) (by repeat (first | with_reducible exact Z.Drop.nil | apply Z.Drop.cons)) ?_
                  refine Z.j_loop (X := { x : (Nat) // (x) ≤ xq.ps.length }) (fun (x : { x : (Nat) // (x) ≤ xq.ps.length }) => [(1, v), (2, .int .i64 most), (7, .pointer (some ⟨b7, 0, none⟩)), (8, .pointer (some ⟨b8, 0, none⟩)), (16, vx), (17, vy), (18, .int .i64 ((LI xq (x.1)).length : Nat)), (117, vp), (118, .int .i64 xq.ps.length), (119, .int .i64 ((x.1) : Nat))]) (fun x => (fun (x : { x : (Nat) // (x) ≤ xq.ps.length }) => [RowP b7 r, Z.cl b8 33 [vp, vl], OC vp xq, OB vl xq, Z.Own 36 2 vx r.ver.length ((sortC r.ver).flatMap Cell.c), Z.Own 3 1 vy r.ver.length (i64s ((sortC r.ver).map (fV r.ver)))]) x ++ Fr) (fun (x : { x : (Nat) // (x) ≤ xq.ps.length }) => xq.ps.length - (x.1)) ⟨(0), by omega⟩ (fun x => ?_)
                  obtain ⟨i, hinv2⟩ := x
                  have hinv2' : i ≤ xq.ps.length := hinv2
                  have hi := hinv2'
                  show Z.J _ _ _ ([(1, v), (2, .int .i64 most), (7, .pointer (some ⟨b7, 0, none⟩)), (8, .pointer (some ⟨b8, 0, none⟩)), (16, vx), (17, vy), (18, .int .i64 ((LI xq i).length : Nat)), (117, vp), (118, .int .i64 xq.ps.length), (119, .int .i64 (i : Nat))]) ([RowP b7 r, Z.cl b8 33 [vp, vl], OC vp xq, OB vl xq, Z.Own 36 2 vx r.ver.length ((sortC r.ver).flatMap Cell.c), Z.Own 3 1 vy r.ver.length (i64s ((sortC r.ver).map (fV r.ver)))] ++ Fr) _
                  refine Z.j_app (by repeat (first | exact Z.App.nil | apply Z.App.cons)) ?_
                  refine Z.j_seq ?_
                  refine Z.j_region ?_
                  refine Z.s_val (Z.pv_lss rfl rfl) ?_
                  refine Z.j_nil ?_
                  refine Z.j_then ?_
                  refine Z.j_seq ?_
                  refine Z.j_cond rfl (fun hc120 => ?_) (fun hc120 => ?_)
                  · try (with_reducible first | replace hc120 := of_decide_eq_true hc120 | replace hc120 := of_decide_eq_false hc120 | replace hc120 := Z.nd_true hc120 | replace hc120 := Z.nd_false hc120 | replace hc120 := Z.nn_true hc120 | replace hc120 := Z.nn_false hc120 | replace hc120 := Z.nb_true hc120 | replace hc120 := Z.nb_false hc120)
                    first
                    | (exfalso; first | (cases hc120; done) | omega)
                    | skip
                      refine Z.j_skip ?_
                      refine Z.j_then ?_
                      refine Z.j_seq ?_
                      refine Z.j_block ?_
                      refine Z.j_seq ?_
                      refine Z.j_unown (T := 36) (k := 2) (v := vp) (m := xq.ps.length) (c := xq.ps.flatMap Cell.c) (by repeat (first | exact Z.Take.here | apply Z.Take.there)) (fun e1 e2 e3 => by exfalso; omega) (fun nb cap sp e1 e2 e3 => ?_)
                      refine Z.j_region ?_
                      refine Z.s_val (Z.pv_move rfl) ?_
                      refine Z.s_val (Z.pv_indexAddr (o' := i * 2) (b := nb) (o := 0) (len := xq.ps.length) (cap := cap) (by show some vp = _; rw [e1]) rfl Try.underlying30 Try.sizeOf36 (by omega) (by simp)) ?_
                      refine Z.s_val (Z.pv_loadA rfl (by repeat (first | with_reducible exact Z.Take.here | apply Z.Take.there)) Try.isAgg36 Try.sizeOf36 (slc_ps (i := i) sp (by omega))) ?_
                      refine Z.s_alloc Try.zeroValue36 (fun b20 => ?_)
                      refine Z.s_val (Z.pv_assign rfl) ?_
                      refine Z.s_storeA rfl rfl Try.sizeOf36 rfl (by repeat (first | with_reducible exact Z.Upd.here | apply Z.Upd.there)) (by rfl) ?_
                      refine Z.j_nil ?_
                      refine Z.j_then ?_
                      refine Z.j_seq ?_
                      refine Z.j_seq ?_
                      refine Z.j_unown (T := 4) (k := 1) (v := vl) (m := xq.ps.length) (c := bls xq) (by repeat (first | exact Z.Take.here | apply Z.Take.there)) (fun f1 f2 f3 => by exfalso; omega) (fun nb2 cap2 sp2 f1 f2 f3 => ?_)
                      refine Z.j_region ?_
                      refine Z.s_val (Z.pv_fieldAddr (o' := 1) rfl Try.underlying33 rfl Try.sizeOf31 rfl) ?_
                      refine Z.s_val (Z.pv_load1 rfl (by repeat (first | with_reducible exact Z.Take.here | apply Z.Take.there)) Try.isAgg31 (by rfl)) ?_
                      refine Z.s_val (Z.pv_move rfl) ?_
                      refine Z.s_val (Z.pv_indexAddr (o' := i) (b := nb2) (o := 0) (len := xq.ps.length) (cap := cap2) (by show some vl = _; rw [f1]) rfl Try.underlying31 Try.sizeOf4 (by omega) (by simp)) ?_
                      refine Z.s_val (Z.pv_load1 (v := .bool (decide (xq.la i = true))) rfl (by repeat (first | with_reducible exact Z.Take.here | apply Z.Take.there)) Try.isAgg4 (get_ls hR.len sp2 (by omega))) ?_
                      refine Z.s_val (Z.pv_not rfl) ?_
                      refine Z.j_nil ?_
                      refine Z.j_then ?_
                      refine Z.j_cond rfl (fun hc129 => ?_) (fun hc129 => ?_)
                      · try (with_reducible first | replace hc129 := of_decide_eq_true hc129 | replace hc129 := of_decide_eq_false hc129 | replace hc129 := Z.nd_true hc129 | replace hc129 := Z.nd_false hc129 | replace hc129 := Z.nn_true hc129 | replace hc129 := Z.nn_false hc129 | replace hc129 := Z.nb_true hc129 | replace hc129 := Z.nb_false hc129)
                        first
                        | (exfalso; first | (cases hc129; done) | omega)
                        | skip
                          have hla : xq.la i = false := by simpa using hc129
                          refine Z.j_exit ?_
                          refine Z.j_then_exit ?_
                          refine Z.j_blk_here rfl ?_
                          refine Z.j_then ?_
                          refine Z.j_region ?_
                          refine Z.s_val (Z.pv_add rfl rfl (by first | exact IntWalk.i64_in _ (by omega) | rfl)) ?_
                          refine Z.s_val (Z.pv_move rfl) ?_
                          refine Z.j_nil ?_
                          refine Z.j_then ?_
                          refine Z.j_own (T := 36) (k := 2) (m := xq.ps.length) (cap := cap) (c := xq.ps.flatMap Cell.c) (sp := sp) (by repeat (first | with_reducible exact Z.Take.here | apply Z.Take.there)) e2 e3 ?_
                          rw [← e1]
                          refine Z.j_own (T := 4) (k := 1) (m := xq.ps.length) (cap := cap2) (c := bls xq) (sp := sp2) (by repeat (first | with_reducible exact Z.Take.here | apply Z.Take.there)) f2 f3 ?_
                          rw [← f1]
                          first
                          | (refine Z.j_own (T := 36) (k := 2) (m := r.ver.length) (cap := cap3) (c := (sortC r.ver).flatMap Cell.c) (sp := sp3) (by repeat (first | with_reducible exact Z.Take.here | apply Z.Take.there)) g2 g3 ?_; rw [← g1]; refine Z.j_own (T := 3) (k := 1) (m := r.ver.length) (cap := cap4) (c := i64s ((sortC r.ver).map (fV r.ver))) (sp := sp4) (by repeat (first | with_reducible exact Z.Take.here | apply Z.Take.there)) h2 h3 ?_; rw [← h1]; refine Z.s_is 18 rfl (show _ = Value.int .i64 ((LI xq (i + 1)).length : Nat) from by rw [LI_succ, if_pos hla]; simp) ?_)
                          | (refine Z.s_is 18 rfl (show _ = Value.int .i64 ((LI xq (i + 1)).length : Nat) from by rw [LI_succ, if_neg (by rw [hla]; simp)]; simp) ?_)
                          (refine Z.j_nextG (X := { x : (Nat) // (x) ≤ xq.ps.length }) (EE := (fun (x : { x : (Nat) // (x) ≤ xq.ps.length }) => [(1, v), (2, .int .i64 most), (7, .pointer (some ⟨b7, 0, none⟩)), (8, .pointer (some ⟨b8, 0, none⟩)), (16, vx), (17, vy), (18, .int .i64 ((LI xq (x.1)).length : Nat)), (117, vp), (118, .int .i64 xq.ps.length), (119, .int .i64 ((x.1) : Nat))])) (LL := (fun (x : { x : (Nat) // (x) ≤ xq.ps.length }) => [RowP b7 r, Z.cl b8 33 [vp, vl], OC vp xq, OB vl xq, Z.Own 36 2 vx r.ver.length ((sortC r.ver).flatMap Cell.c), Z.Own 3 1 vy r.ver.length (i64s ((sortC r.ver).map (fV r.ver)))])) (μ := (fun (x : { x : (Nat) // (x) ≤ xq.ps.length }) => xq.ps.length - (x.1))) (x := ⟨(i), hinv2⟩) ⟨(i + 1), by omega⟩ ?_ ?_ ?_; (show xq.ps.length - (i + 1) < xq.ps.length - i; omega); (exact (by repeat (first | exact trivial | refine ⟨rfl, ?_⟩))); (exact Z.st_td (by repeat (first | with_reducible exact Z.Takes.nil | (apply Z.Takes.cons; (repeat (first | with_reducible exact Z.Take.here | apply Z.Take.there))))) (by repeat (first | with_reducible exact Z.Drop.nil | apply Z.Drop.cons))))
                      · try (with_reducible first | replace hc129 := of_decide_eq_true hc129 | replace hc129 := of_decide_eq_false hc129 | replace hc129 := Z.nd_true hc129 | replace hc129 := Z.nd_false hc129 | replace hc129 := Z.nn_true hc129 | replace hc129 := Z.nn_false hc129 | replace hc129 := Z.nb_true hc129 | replace hc129 := Z.nb_false hc129)
                        first
                        | (exfalso; first | (cases hc129; done) | omega)
                        | skip
                          refine Z.j_skip ?_
                          refine Z.j_then ?_
                          refine Z.j_seq ?_
                          refine Z.j_seq ?_
                          have hla : xq.la i = true := hc129
                          have hlt := LI_lt (x := xq) (i := i) (n := xq.ps.length) (by omega) hla
                          have hsx := sAt_LI hok hR (i := i) (by omega) hla
                          have hfx : fV r.ver (sAt r.ver (LI xq i).length) = (i : Int) + 1 := by rw [hsx]; exact fV_pa hR (by omega) hla
                          have hge : ¬ ((r.ver.length : Int) ≤ ((LI xq i).length : Nat)) := by omega
                          refine Z.j_unown (T := 36) (k := 2) (v := vx) (by repeat (first | with_reducible exact Z.Take.here | apply Z.Take.there)) (fun e1 e2 e3 => by exfalso; omega) (fun nb3 cap3 sp3 g1 g2 g3 => ?_)
                          refine Z.j_unown (T := 3) (k := 1) (v := vy) (by repeat (first | with_reducible exact Z.Take.here | apply Z.Take.there)) (fun e1 e2 e3 => by exfalso; omega) (fun nb4 cap4 sp4 h1 h2 h3 => ?_)
                          refine Z.j_draw (vals := [_, _, _, _, _, _, _, _, _, _, _, _, _, _, _, _, _, _, _, _, _]) 21 (by kernel_rfl) (by kernel_rfl) rfl (by rfl) (Z.heads_cons (Z.hq_val (Z.pv_move (by rfl))) (Z.heads_cons (Z.hq_val (Z.pv_move (by rfl))) (Z.heads_cons (Z.hq_val (Z.pv_len (by show some vx = _; rw [g1]) Try.underlying30)) (Z.heads_cons (Z.hq_val (Z.pv_geq (by rfl) (by rfl))) (Z.heads_cons (Z.hq_val (Z.pv_is (Z.pv_move (by rfl)) (Z.bool_f hge))) (Z.heads_cons (Z.hq_val (Z.pv_move (by rfl))) (Z.heads_cons (Z.hq_val (Z.pv_move (by rfl))) (Z.heads_cons (Z.hq_val (Z.pv_indexAddr (o' := (LI xq i).length * 2) (b := nb3) (o := 0) (len := r.ver.length) (cap := cap3) (by show some vx = _; rw [g1]) (by rfl) Try.underlying30 (by exact Try.sizeOf36) (by omega) (by simp))) (Z.heads_cons (Z.hq_val (Z.pv_loadA (by rfl) (by repeat (first | with_reducible exact Z.Take.here | apply Z.Take.there)) Try.isAgg36 (by exact Try.sizeOf36) (slc_cell (i := (LI xq i).length) sp3 (by rw [sortC_len]; omega)))) (Z.heads_cons (Z.hq_val (Z.pv_loadA (by rfl) (by repeat (first | with_reducible exact Z.Take.here | apply Z.Take.there)) Try.isAgg36 (by exact Try.sizeOf36) (by rfl))) (Z.heads_cons (Z.hq_val (Z.pv_is (Z.pv_neA (by rfl) (by rfl) Try.eqGuardType36 Try.underlying36 Try.stoodInHeld36 (cells_eq _ _ ⟨_, _⟩) (by rfl)) (show _ = Value.bool false from congrArg (fun b => Value.bool (!b)) (decide_eq_true hsx)))) (Z.heads_cons (Z.hq_val (Z.pv_pick (by rfl) (by rfl))) (Z.heads_cons (Z.hq_val (Z.pv_move (by rfl))) (Z.heads_cons (Z.hq_val (Z.pv_move (by rfl))) (Z.heads_cons (Z.hq_val (Z.pv_move (by rfl))) (Z.heads_cons (Z.hq_val (Z.pv_indexAddr (o' := (LI xq i).length) (b := nb4) (o := 0) (len := r.ver.length) (cap := cap4) (by show some vy = _; rw [h1]) (by rfl) Try.underlying48 (by exact Try.sizeOf3) (by omega) (by simp))) (Z.heads_cons (Z.hq_val (Z.pv_load1 (by rfl) (by repeat (first | with_reducible exact Z.Take.here | apply Z.Take.there)) Try.isAgg3 (get_ver (i := (LI xq i).length) sp4 (by omega)))) (Z.heads_cons (Z.hq_val (Z.pv_move (by rfl))) (Z.heads_cons (Z.hq_val (Z.pv_add (by rfl) (by rfl) (by first | exact IntWalk.i64_in _ (by omega) | rfl))) (Z.heads_cons (Z.hq_val (Z.pv_is (Z.pv_neq (by rfl) (by rfl)) (show _ = Value.bool false from congrArg (fun b => Value.bool (!b)) (decide_eq_true hfx)))) (Z.heads_cons (Z.hq_val (Z.pv_pick (by rfl) (by rfl))) Z.heads_nil))))))))))))))))))))) ?_
                          refine Z.j_nil ?_
                          refine Z.j_then ?_
                          refine Z.j_cond rfl (fun hc150 => ?_) (fun hc150 => ?_)
                          · try (with_reducible first | replace hc150 := of_decide_eq_true hc150 | replace hc150 := of_decide_eq_false hc150 | replace hc150 := Z.nd_true hc150 | replace hc150 := Z.nd_false hc150 | replace hc150 := Z.nn_true hc150 | replace hc150 := Z.nn_false hc150 | replace hc150 := Z.nb_true hc150 | replace hc150 := Z.nb_false hc150)
                            first
                            | (exfalso; first | (cases hc150; done) | omega)
                            | skip
                              refine Z.j_seq ?_
                              refine Z.j_region ?_
                              refine Z.s_val (Z.pv_assign rfl) ?_
                              refine Z.j_nil ?_
                              refine Z.j_then ?_
                              refine Z.j_ret ?_
                              refine Z.j_then_ret ?_
                              refine Z.j_blk_ret ?_
                              refine Z.j_then_ret ?_
                              refine Z.j_then_ret ?_
                              refine Z.j_blk_ret ?_
                              refine Z.j_then_ret ?_
                              refine Z.j_doneM_ret (bs := []) .nil (Z.rv1 (Z.rv_tmp (t := 6) rfl)) ?_
                              exact Z.post_of ⟨rfl, rfl⟩ (by repeat (first | with_reducible exact Z.Takes.nil | (apply Z.Takes.cons; (repeat (first | with_reducible exact Z.Take.here | apply Z.Take.there))))) (by repeat (first | with_reducible exact Z.Drop.nil | apply Z.Drop.cons))
                          · try (with_reducible first | replace hc150 := of_decide_eq_true hc150 | replace hc150 := of_decide_eq_false hc150 | replace hc150 := Z.nd_true hc150 | replace hc150 := Z.nd_false hc150 | replace hc150 := Z.nn_true hc150 | replace hc150 := Z.nn_false hc150 | replace hc150 := Z.nb_true hc150 | replace hc150 := Z.nb_false hc150)
                            first
                            | (exfalso; first | (cases hc150; done) | omega)
                            | skip
                              refine Z.j_skip ?_
                              refine Z.j_then ?_
                              refine Z.j_region ?_
                              refine Z.s_val (Z.pv_move rfl) ?_
                              refine Z.s_val (Z.pv_add rfl rfl (by first | exact IntWalk.i64_in _ (by omega) | rfl)) ?_
                              refine Z.s_val (Z.pv_assign rfl) ?_
                              refine Z.j_nil ?_
                              refine Z.j_blk ?_
                              refine Z.j_then ?_
                              refine Z.j_region ?_
                              refine Z.s_val (Z.pv_add rfl rfl (by first | exact IntWalk.i64_in _ (by omega) | rfl)) ?_
                              refine Z.s_val (Z.pv_move rfl) ?_
                              refine Z.j_nil ?_
                              refine Z.j_then ?_
                              refine Z.j_own (T := 36) (k := 2) (m := xq.ps.length) (cap := cap) (c := xq.ps.flatMap Cell.c) (sp := sp) (by repeat (first | with_reducible exact Z.Take.here | apply Z.Take.there)) e2 e3 ?_
                              rw [← e1]
                              refine Z.j_own (T := 4) (k := 1) (m := xq.ps.length) (cap := cap2) (c := bls xq) (sp := sp2) (by repeat (first | with_reducible exact Z.Take.here | apply Z.Take.there)) f2 f3 ?_
                              rw [← f1]
                              first
                              | (refine Z.j_own (T := 36) (k := 2) (m := r.ver.length) (cap := cap3) (c := (sortC r.ver).flatMap Cell.c) (sp := sp3) (by repeat (first | with_reducible exact Z.Take.here | apply Z.Take.there)) g2 g3 ?_; rw [← g1]; refine Z.j_own (T := 3) (k := 1) (m := r.ver.length) (cap := cap4) (c := i64s ((sortC r.ver).map (fV r.ver))) (sp := sp4) (by repeat (first | with_reducible exact Z.Take.here | apply Z.Take.there)) h2 h3 ?_; rw [← h1]; refine Z.s_is 18 rfl (show _ = Value.int .i64 ((LI xq (i + 1)).length : Nat) from by rw [LI_succ, if_pos hla]; simp) ?_)
                              | (refine Z.s_is 18 rfl (show _ = Value.int .i64 ((LI xq (i + 1)).length : Nat) from by rw [LI_succ, if_neg (by rw [hla]; simp)]; simp) ?_)
                              (refine Z.j_nextG (X := { x : (Nat) // (x) ≤ xq.ps.length }) (EE := (fun (x : { x : (Nat) // (x) ≤ xq.ps.length }) => [(1, v), (2, .int .i64 most), (7, .pointer (some ⟨b7, 0, none⟩)), (8, .pointer (some ⟨b8, 0, none⟩)), (16, vx), (17, vy), (18, .int .i64 ((LI xq (x.1)).length : Nat)), (117, vp), (118, .int .i64 xq.ps.length), (119, .int .i64 ((x.1) : Nat))])) (LL := (fun (x : { x : (Nat) // (x) ≤ xq.ps.length }) => [RowP b7 r, Z.cl b8 33 [vp, vl], OC vp xq, OB vl xq, Z.Own 36 2 vx r.ver.length ((sortC r.ver).flatMap Cell.c), Z.Own 3 1 vy r.ver.length (i64s ((sortC r.ver).map (fV r.ver)))])) (μ := (fun (x : { x : (Nat) // (x) ≤ xq.ps.length }) => xq.ps.length - (x.1))) (x := ⟨(i), hinv2⟩) ⟨(i + 1), by omega⟩ ?_ ?_ ?_; (show xq.ps.length - (i + 1) < xq.ps.length - i; omega); (exact (by repeat (first | exact trivial | refine ⟨rfl, ?_⟩))); (exact Z.st_td (by repeat (first | with_reducible exact Z.Takes.nil | (apply Z.Takes.cons; (repeat (first | with_reducible exact Z.Take.here | apply Z.Take.there))))) (by repeat (first | with_reducible exact Z.Drop.nil | apply Z.Drop.cons))))
                  · try (with_reducible first | replace hc120 := of_decide_eq_true hc120 | replace hc120 := of_decide_eq_false hc120 | replace hc120 := Z.nd_true hc120 | replace hc120 := Z.nd_false hc120 | replace hc120 := Z.nn_true hc120 | replace hc120 := Z.nn_false hc120 | replace hc120 := Z.nb_true hc120 | replace hc120 := Z.nb_false hc120)
                    first
                    | (exfalso; first | (cases hc120; done) | omega)
                    | skip
                      have hin2 : i = xq.ps.length := by omega
                      subst hin2
                      refine Z.j_exit ?_
                      refine Z.j_then_exit ?_
                      refine Z.j_then_exit ?_
                      refine Z.j_blk_here rfl ?_
                      refine Z.j_then ?_
                      refine Z.j_seq ?_
                      refine Z.j_region ?_
                      refine Z.s_val (Z.pv_move rfl) ?_
                      refine Z.s_val (Z.pv_bits rfl rfl hm0) ?_
                      refine Z.s_call rfl rfl rfl isFn19 (by repeat (first | with_reducible exact Z.Takes.nil | (apply Z.Takes.cons; (repeat (first | with_reducible exact Z.Take.here | apply Z.Take.there))))) (cells_spec _ _ r m0 hok) ?_
                      rintro _ _ ⟨vx2, vy2, rfl, rfl⟩
                      refine Z.j_app (by repeat (first | exact Z.App.nil | apply Z.App.cons)) ?_
                      refine Z.s_val (Z.pv_move rfl) ?_
                      refine Z.s_val (Z.pv_extract rfl rfl) ?_
                      refine Z.s_val (Z.pv_extract rfl rfl) ?_
                      refine Z.s_val (Z.pv_assign rfl) ?_
                      refine Z.s_val (Z.pv_assign rfl) ?_
                      refine Z.j_nil ?_
                      refine Z.j_then ?_
                      refine Z.j_seq ?_
                      refine Z.j_fold (A := Z.sep []) (As := []) (by repeat (first | with_reducible exact Z.Takes.nil | (apply Z.Takes.cons; (repeat (first | with_reducible exact Z.Take.here | apply Z.Take.there))))) (fun _ H => H) ?_
                      refine Z.j_drawTm 26 [⟨none, (some 20), [5], fun ρ => RowP b7 r⟩, ⟨(some 20), none, [], fun ρ => RowP b7 r⟩, ⟨none, (some 20), [], fun ρ => Z.sep []⟩, ⟨(some 20), none, [], fun ρ => Z.sep []⟩, ⟨(some 20), none, [24], fun ρ => Z.Own 3 1 (ρ 20) (inA r.ver a).length (i64s (inA r.ver a))⟩, ⟨none, none, [21], fun ρ => Z.cl b8 33 [vp, vl]⟩, ⟨none, (some 23), [], fun ρ => OC vp xq⟩, ⟨(some 23), none, [], fun ρ => OC vp xq⟩, ⟨none, (some 23), [], fun ρ => OB vl xq⟩, ⟨(some 23), none, [], fun ρ => OB vl xq⟩, ⟨(some 23), none, [24], fun ρ => Z.Own 3 1 (ρ 23) (inA r.ver a).length (i64s (inA r.ver a))⟩, ⟨none, none, [2], fun ρ => Z.Own 36 2 vx r.ver.length ((sortC r.ver).flatMap Cell.c)⟩, ⟨none, none, [11], fun ρ => Z.Own 36 2 vx2 (ssR r.ver m0).length (((ssR r.ver m0).map (·.1)).flatMap Cell.c)⟩] [20, 23] (fun ρ => [.int .i64 ((LI xq xq.ps.length).length : Nat), vx, .int .i64 r.ver.length, .bool true, .bool true, .int .i64 r.ver.length, .int .i64 ((LI xq xq.ps.length).length : Nat), .bool true, .bool true, .bool true, vx2, .int .i64 (ssR r.ver m0).length, .int .i64 most, .int .i64 m0, .int .i64 ((LI xq xq.ps.length).length : Nat), .int .i64 (if (((LI xq xq.ps.length).length : Nat) : Int) < m0 then (((LI xq xq.ps.length).length : Nat) : Int) else m0), .bool true, .bool true, .bool true, v, ρ 20, .agg #[vp, vl], v, ρ 23, .bool true, .bool true]) (by kernel_rfl) rfl (by kernel_rfl) (by kernel_rfl) (by rfl) (fun _ => rfl) ⟨fun _ _ => rfl, fun _ _ => rfl, ⟨fun _ _ => rfl, fun _ _ => rfl, trivial⟩⟩ (fun ρ => (by repeat (first | with_reducible exact Z.Takes.nil | (apply Z.Takes.cons; (repeat (first | with_reducible exact Z.Take.here | apply Z.Take.there))) | exact Z.Takes.nil))) ?_ (fun ρ => ?_)
                      · skip
                        refine Z.tops_cons ?_ ?_
                        · refine Z.top_q (fun ρ => .int .i64 ((LI xq xq.ps.length).length : Nat)) rfl (fun _ => rfl) (fun ρ Rr => ?_)
                          show Z.HQ _ _ _ _ _ _ (Rr) _ _
                          exact (Z.hq_val (Z.pv_move rfl))
                        refine Z.tops_cons ?_ ?_
                        · refine Z.top_q (fun ρ => vx) rfl (fun _ => rfl) (fun ρ Rr => ?_)
                          show Z.HQ _ _ _ _ _ _ (Rr) _ _
                          exact (Z.hq_val (Z.pv_move rfl))
                        refine Z.tops_cons ?_ ?_
                        · refine Z.top_q (fun ρ => .int .i64 r.ver.length) rfl (fun _ => rfl) (fun ρ Rr => ?_)
                          show Z.HQ _ _ _ _ _ _ (Z.Own 36 2 vx r.ver.length ((sortC r.ver).flatMap Cell.c) :: Rr) _ _
                          exact (Z.hq_val (Z.pv_lenO rfl (by repeat (first | with_reducible exact Z.Take.here | apply Z.Take.there)) Try.underlying30))
                        refine Z.tops_cons ?_ ?_
                        · refine Z.top_q (fun ρ => .bool true) rfl (fun _ => rfl) (fun ρ Rr => ?_)
                          show Z.HQ _ _ _ _ _ _ (Rr) _ _
                          exact (Z.hq_val (Z.pv_is (Z.pv_eql rfl rfl) (congrArg Value.bool (decide_eq_true (show (((LI xq xq.ps.length).length : Nat) : Int) = (r.ver.length : Int) by omega)))))
                        refine Z.tops_cons ?_ ?_
                        · refine Z.top_q (fun ρ => .bool true) rfl (fun _ => rfl) (fun ρ Rr => ?_)
                          show Z.HQ _ _ _ _ _ _ (Rr) _ _
                          exact (Z.hq_val (Z.pv_move rfl))
                        refine Z.tops_cons ?_ ?_
                        · refine Z.top_q (fun ρ => .int .i64 r.ver.length) rfl (fun _ => rfl) (fun ρ Rr => ?_)
                          show Z.HQ _ _ _ _ _ _ (RowP b7 r :: Rr) _ _
                          exact (Z.hq_callD rfl rfl rfl isFn20 (by repeat (first | with_reducible exact Z.Takes.nil | (apply Z.Takes.cons; (repeat (first | with_reducible exact Z.Take.here | apply Z.Take.there))))) (by repeat (first | with_reducible exact Z.Takes.nil | (apply Z.Takes.cons; (repeat (first | with_reducible exact Z.Take.here | apply Z.Take.there))))) (live_spec _ _ r))
                        refine Z.tops_cons ?_ ?_
                        · refine Z.top_q (fun ρ => .int .i64 ((LI xq xq.ps.length).length : Nat)) rfl (fun _ => rfl) (fun ρ Rr => ?_)
                          show Z.HQ _ _ _ _ _ _ (Rr) _ _
                          exact (Z.hq_val (Z.pv_move rfl))
                        refine Z.tops_cons ?_ ?_
                        · refine Z.top_q (fun ρ => .bool true) rfl (fun _ => rfl) (fun ρ Rr => ?_)
                          show Z.HQ _ _ _ _ _ _ (Rr) _ _
                          exact (Z.hq_val (Z.pv_is (Z.pv_eql rfl rfl) (congrArg Value.bool (decide_eq_true (show (r.ver.length : Int) = (((LI xq xq.ps.length).length : Nat) : Int) by omega)))))
                        refine Z.tops_cons ?_ ?_
                        · refine Z.top_q (fun ρ => .bool true) rfl (fun _ => rfl) (fun ρ Rr => ?_)
                          show Z.HQ _ _ _ _ _ _ (Rr) _ _
                          exact (Z.hq_val (Z.pv_pick rfl rfl))
                        refine Z.tops_cons ?_ ?_
                        · refine Z.top_q (fun ρ => .bool true) rfl (fun _ => rfl) (fun ρ Rr => ?_)
                          show Z.HQ _ _ _ _ _ _ (Rr) _ _
                          exact (Z.hq_val (Z.pv_move rfl))
                        refine Z.tops_cons ?_ ?_
                        · refine Z.top_q (fun ρ => vx2) rfl (fun _ => rfl) (fun ρ Rr => ?_)
                          show Z.HQ _ _ _ _ _ _ (Rr) _ _
                          exact (Z.hq_val (Z.pv_move rfl))
                        refine Z.tops_cons ?_ ?_
                        · refine Z.top_q (fun ρ => .int .i64 (ssR r.ver m0).length) rfl (fun _ => rfl) (fun ρ Rr => ?_)
                          show Z.HQ _ _ _ _ _ _ (Z.Own 36 2 vx2 (ssR r.ver m0).length (((ssR r.ver m0).map (·.1)).flatMap Cell.c) :: Rr) _ _
                          exact (Z.hq_val (Z.pv_lenO rfl (by repeat (first | with_reducible exact Z.Take.here | apply Z.Take.there)) Try.underlying30))
                        refine Z.tops_cons ?_ ?_
                        · refine Z.top_q (fun ρ => .int .i64 most) rfl (fun _ => rfl) (fun ρ Rr => ?_)
                          show Z.HQ _ _ _ _ _ _ (Rr) _ _
                          exact (Z.hq_val (Z.pv_move rfl))
                        refine Z.tops_cons ?_ ?_
                        · refine Z.top_q (fun ρ => .int .i64 m0) rfl (fun _ => rfl) (fun ρ Rr => ?_)
                          show Z.HQ _ _ _ _ _ _ (Rr) _ _
                          exact (Z.hq_val (Z.pv_bits rfl rfl hm0))
                        refine Z.tops_cons ?_ ?_
                        · refine Z.top_q (fun ρ => .int .i64 ((LI xq xq.ps.length).length : Nat)) rfl (fun _ => rfl) (fun ρ Rr => ?_)
                          show Z.HQ _ _ _ _ _ _ (Rr) _ _
                          exact (Z.hq_val (Z.pv_move rfl))
                        refine Z.tops_cons ?_ ?_
                        · refine Z.top_q (fun ρ => .int .i64 (if (((LI xq xq.ps.length).length : Nat) : Int) < m0 then (((LI xq xq.ps.length).length : Nat) : Int) else m0)) rfl (fun _ => rfl) (fun ρ Rr => ?_)
                          show Z.HQ _ _ _ _ _ _ (Rr) _ _
                          exact (Z.hq_val (Z.pv_min rfl rfl))
                        refine Z.tops_cons ?_ ?_
                        · refine Z.top_q (fun ρ => .bool true) rfl (fun _ => rfl) (fun ρ Rr => ?_)
                          show Z.HQ _ _ _ _ _ _ (Rr) _ _
                          exact (Z.hq_val (Z.pv_is (Z.pv_eql rfl rfl) (congrArg Value.bool (decide_eq_true hmin))))
                        refine Z.tops_cons ?_ ?_
                        · refine Z.top_q (fun ρ => .bool true) rfl (fun _ => rfl) (fun ρ Rr => ?_)
                          show Z.HQ _ _ _ _ _ _ (Rr) _ _
                          exact (Z.hq_val (Z.pv_pick rfl rfl))
                        refine Z.tops_cons ?_ ?_
                        · refine Z.top_q (fun ρ => .bool true) rfl (fun _ => rfl) (fun ρ Rr => ?_)
                          show Z.HQ _ _ _ _ _ _ (Rr) _ _
                          exact (Z.hq_val (Z.pv_move rfl))
                        refine Z.tops_cons ?_ ?_
                        · refine Z.top_q (fun ρ => v) rfl (fun _ => rfl) (fun ρ Rr => ?_)
                          show Z.HQ _ _ _ _ _ _ (Rr) _ _
                          exact (Z.hq_val (Z.pv_move rfl))
                        refine Z.tops_cons ?_ ?_
                        · refine Z.top_c rfl (fun ρ Rr => ?_)
                          refine Z.hn_of rfl (by rfl) rfl (by rfl) ?_
                          show Z.J _ _ _ _ ([RowP b7 r, Z.sep []] ++ Rr) _
                          refine Z.j_app (by repeat (first | exact Z.App.nil | apply Z.App.cons)) ?_
                          refine Z.s_call rfl rfl rfl isFn22 (by repeat (first | with_reducible exact Z.Takes.nil | (apply Z.Takes.cons; (repeat (first | with_reducible exact Z.Take.here | apply Z.Take.there))))) (in_spec _ _ r hok v a (Z.sep []) (fewA_nb hfew) (fun w R h => hA.up h)) ?_
                          rintro v180 _ rfl
                          refine Z.j_app (by repeat (first | exact Z.App.nil | apply Z.App.cons)) ?_
                          refine Z.j_nil ?_
                          refine Z.hn_end (by rfl) (fun w hs => ⟨rfl, Z.st_td (by repeat (first | with_reducible exact Z.Takes.nil | (apply Z.Takes.cons; (repeat (first | exact Z.Take.here | apply Z.Take.there))) | exact Z.Takes.nil)) (by repeat (first | with_reducible exact Z.Drop.nil | apply Z.Drop.cons)) w hs⟩)
                        refine Z.tops_cons ?_ ?_
                        · refine Z.top_q (fun ρ => .agg #[vp, vl]) rfl (fun _ => rfl) (fun ρ Rr => ?_)
                          show Z.HQ _ _ _ _ _ _ (Z.cl b8 33 [vp, vl] :: Rr) _ _
                          exact (Z.hq_val (Z.pv_loadA rfl (by repeat (first | with_reducible exact Z.Take.here | apply Z.Take.there)) Try.isAgg33 Try.sizeOf33 (by rfl)))
                        refine Z.tops_cons ?_ ?_
                        · refine Z.top_q (fun ρ => v) rfl (fun _ => rfl) (fun ρ Rr => ?_)
                          show Z.HQ _ _ _ _ _ _ (Rr) _ _
                          exact (Z.hq_val (Z.pv_move rfl))
                        refine Z.tops_cons ?_ ?_
                        · refine Z.top_c rfl (fun ρ Rr => ?_)
                          refine Z.hn_of rfl (by rfl) rfl (by rfl) ?_
                          show Z.J _ _ _ _ ([OC vp xq, OB vl xq] ++ Rr) _
                          refine Z.j_app (by repeat (first | exact Z.App.nil | apply Z.App.cons)) ?_
                          refine Z.s_call rfl rfl rfl isFn23 (by repeat (first | with_reducible exact Z.Takes.nil | (apply Z.Takes.cons; (repeat (first | with_reducible exact Z.Take.here | apply Z.Take.there))))) (xin_spec _ vp vl r xq hR h60 hok v a hA hao) ?_
                          rintro v183 _ rfl
                          refine Z.j_app (by repeat (first | exact Z.App.nil | apply Z.App.cons)) ?_
                          refine Z.j_nil ?_
                          refine Z.hn_end (by rfl) (fun w hs => ⟨rfl, Z.st_td (by repeat (first | with_reducible exact Z.Takes.nil | (apply Z.Takes.cons; (repeat (first | exact Z.Take.here | apply Z.Take.there))) | exact Z.Takes.nil)) (by repeat (first | with_reducible exact Z.Drop.nil | apply Z.Drop.cons)) w hs⟩)
                        refine Z.tops_cons ?_ ?_
                        · refine Z.top_q (fun ρ => .bool true) rfl (fun _ => rfl) (fun ρ Rr => ?_)
                          show Z.HQ _ _ _ _ _ _ (Z.Own 3 1 (ρ 20) (inA r.ver a).length (i64s (inA r.ver a)) :: Z.Own 3 1 (ρ 23) (inA r.ver a).length (i64s (inA r.ver a)) :: Rr) _ _
                          exact (Z.hq_callD rfl rfl rfl isFn21 (by repeat (first | with_reducible exact Z.Takes.nil | (apply Z.Takes.cons; (repeat (first | with_reducible exact Z.Take.here | apply Z.Take.there))))) (by repeat (first | with_reducible exact Z.Takes.nil | (apply Z.Takes.cons; (repeat (first | with_reducible exact Z.Take.here | apply Z.Take.there))))) (same_spec _ _ _ (inA r.ver a) hil))
                        refine Z.tops_cons ?_ ?_
                        · refine Z.top_q (fun ρ => .bool true) rfl (fun _ => rfl) (fun ρ Rr => ?_)
                          show Z.HQ _ _ _ _ _ _ (Rr) _ _
                          exact (Z.hq_val (Z.pv_pick rfl rfl))
                        exact Z.tops_nil
                      · show Z.J _ _ _ _ ([RowP b7 r, Z.sep [], Z.Own 3 1 (ρ 20) (inA r.ver a).length (i64s (inA r.ver a)), Z.cl b8 33 [vp, vl], OC vp xq, OB vl xq, Z.Own 3 1 (ρ 23) (inA r.ver a).length (i64s (inA r.ver a)), Z.Own 36 2 vx r.ver.length ((sortC r.ver).flatMap Cell.c), Z.Own 36 2 vx2 (ssR r.ver m0).length (((ssR r.ver m0).map (·.1)).flatMap Cell.c)] ++ _) _
                        refine Z.j_app (by repeat (first | exact Z.App.nil | apply Z.App.cons)) ?_
                        refine Z.s_val (Z.pv_assign rfl) ?_
                        refine Z.j_nil ?_
                        refine Z.j_then ?_
                        refine Z.j_ret ?_
                        refine Z.j_doneM_ret (bs := []) .nil (Z.rv1 (Z.rv_tmp (t := 6) rfl)) ?_
                        exact Z.post_of ⟨rfl, rfl⟩ (by repeat (first | with_reducible exact Z.Takes.nil | (apply Z.Takes.cons; (repeat (first | with_reducible exact Z.Take.here | apply Z.Take.there))))) (by repeat (first | with_reducible exact Z.Drop.nil | apply Z.Drop.cons))
      · try (with_reducible first | replace hg28 := of_decide_eq_true hg28 | replace hg28 := of_decide_eq_false hg28 | replace hg28 := Z.nd_true hg28 | replace hg28 := Z.nd_false hg28 | replace hg28 := Z.nn_true hg28 | replace hg28 := Z.nn_false hg28 | replace hg28 := Z.nb_true hg28 | replace hg28 := Z.nb_false hg28)
        first
        | (exfalso; first | (cases hg28; done) | omega)
        | skip
          refine Z.s_val (Z.pv_move rfl) ?_
          refine Z.s_callD rfl rfl rfl isFn8 (by repeat (first | with_reducible exact Z.Takes.nil | (apply Z.Takes.cons; (repeat (first | with_reducible exact Z.Take.here | apply Z.Take.there))))) (by repeat (first | exact Z.App.nil | apply Z.App.cons)) (few_spec _ v a hA hao) ?_
          refine Z.s_val (Z.pv_not rfl) ?_
          refine Z.s_val (Z.pv_pick rfl rfl) ?_
          refine Z.j_nil ?_
          refine Z.j_then ?_
          refine Z.j_cond rfl (fun hc32 => ?_) (fun hc32 => ?_)
          · try (with_reducible first | replace hc32 := of_decide_eq_true hc32 | replace hc32 := of_decide_eq_false hc32 | replace hc32 := Z.nd_true hc32 | replace hc32 := Z.nd_false hc32 | replace hc32 := Z.nn_true hc32 | replace hc32 := Z.nn_false hc32 | replace hc32 := Z.nb_true hc32 | replace hc32 := Z.nb_false hc32)
            first
            | (exfalso; first | (cases hc32; done) | omega)
            | skip
              refine Z.j_seq ?_
              refine Z.j_region ?_
              refine Z.s_val (Z.pv_assign rfl) ?_
              refine Z.j_nil ?_
              refine Z.j_then ?_
              refine Z.j_ret ?_
              refine Z.j_then_ret ?_
              refine Z.j_doneM_ret (bs := []) .nil (Z.rv1 (Z.rv_tmp (t := 6) rfl)) ?_
              exact Z.post_of ⟨rfl, rfl⟩ (by repeat (first | with_reducible exact Z.Takes.nil | (apply Z.Takes.cons; (repeat (first | with_reducible exact Z.Take.here | apply Z.Take.there))))) (by repeat (first | with_reducible exact Z.Drop.nil | apply Z.Drop.cons))
          · try (with_reducible first | replace hc32 := of_decide_eq_true hc32 | replace hc32 := of_decide_eq_false hc32 | replace hc32 := Z.nd_true hc32 | replace hc32 := Z.nd_false hc32 | replace hc32 := Z.nn_true hc32 | replace hc32 := Z.nn_false hc32 | replace hc32 := Z.nb_true hc32 | replace hc32 := Z.nb_false hc32)
            first
            | (exfalso; first | (cases hc32; done) | omega)
            | skip
              have hfew : fewA a = true := by first | exact hc32 | simpa using hc32
              have hn60 : n ≤ 60 := by omega
              refine Z.j_skip ?_
              refine Z.j_then ?_
              refine Z.j_seq ?_
              refine Z.j_region ?_
              refine Z.s_alloc Try.zeroValue29 (fun b7 => ?_)
              refine Z.j_nil ?_
              refine Z.j_then ?_
              refine Z.j_seq ?_
              refine Z.j_region ?_
              refine Z.s_val (Z.pv_build rfl Try.zeroValue33 pl33 rfl) ?_
              refine Z.s_alloc Try.zeroValue33 (fun b8 => ?_)
              refine Z.s_storeA rfl rfl Try.sizeOf33 rfl (by repeat (first | with_reducible exact Z.Upd.here | apply Z.Upd.there)) (by rfl) ?_
              refine Z.j_nil ?_
              refine Z.j_then ?_
              refine Z.j_seq ?_
              refine Z.j_seq ?_
              refine Z.j_fold (A := RowP b7 (rt os 0)) (As := [Z.cl b7 29 [.map none, .map none, .int .i64 0]]) (by repeat (first | with_reducible exact Z.Takes.nil | (apply Z.Takes.cons; (repeat (first | with_reducible exact Z.Take.here | apply Z.Take.there))))) (fun _ H => rowP_none (r := RSt.z) rfl rfl H) ?_
              refine Z.J.own_nil 36 2 ?_
              refine Z.j_cast (A := Z.Own 36 2 (.slice none 0 0) 0 []) (B := OC (.slice none 0 0) (xt os 0)) (by repeat (first | with_reducible exact Z.Take.here | apply Z.Take.there)) rfl ?_
              refine Z.J.own_nil 4 1 ?_
              refine Z.j_cast (A := Z.Own 4 1 (.slice none 0 0) 0 []) (B := OB (.slice none 0 0) (xt os 0)) (by repeat (first | with_reducible exact Z.Take.here | apply Z.Take.there)) rfl ?_
              refine Z.j_region ?_
              refine Z.s_val (Z.pv_move rfl) ?_
              refine Z.s_val (Z.pv_len rfl Try.underlying22) ?_
              refine Z.s_val (Z.pv_move rfl) ?_
              refine Z.j_nil ?_
              refine Z.j_then ?_
              refine Z.j_block ?_
              refine Z.j_initF (E' := [(0, .slice p n cap), (1, v), (2, .int .i64 most), (7, .pointer (some ⟨b7, 0, none⟩)), (8, .pointer (some ⟨b8, 0, none⟩)), (34, .slice p n cap), (35, .int .i64 n), (36, .int .i64 ((0) : Nat))]) (As := [RowP b7 (rt os (0)), Z.cl b8 33 [(.slice none 0 0), (.slice none 0 0)], OC (.slice none 0 0) (xt os (0)), OB (.slice none 0 0) (xt os (0))]) (Fr := Fr) (by repeat (first | exact trivial | refine ⟨rfl, ?_⟩)) (by repeat (first | with_reducible exact Z.Takes.nil | (apply Z.Takes.cons; (repeat (first | with_reducible exact Z.Take.here | apply Z.Take.there))))) (by repeat (first | with_reducible exact Z.Drop.nil | apply Z.Drop.cons)) ?_
              refine Z.j_loop (X := { x : (Nat) × (Value) × (Value) // (x.1) ≤ n }) (fun (x : { x : (Nat) × (Value) × (Value) // (x.1) ≤ n }) => [(0, .slice p n cap), (1, v), (2, .int .i64 most), (7, .pointer (some ⟨b7, 0, none⟩)), (8, .pointer (some ⟨b8, 0, none⟩)), (34, .slice p n cap), (35, .int .i64 n), (36, .int .i64 ((x.1.1) : Nat))]) (fun x => (fun (x : { x : (Nat) × (Value) × (Value) // (x.1) ≤ n }) => [RowP b7 (rt os (x.1.1)), Z.cl b8 33 [(x.1.2.1), (x.1.2.2)], OC (x.1.2.1) (xt os (x.1.1)), OB (x.1.2.2) (xt os (x.1.1))]) x ++ Fr) (fun (x : { x : (Nat) × (Value) × (Value) // (x.1) ≤ n }) => n - (x.1.1)) ⟨(0, .slice none 0 0, .slice none 0 0), by omega⟩ (fun x => ?_)
              obtain ⟨⟨i, vp, vl⟩, hinv⟩ := x
              have hinv' : i ≤ n := hinv
              have hi := hinv'
              show Z.J _ _ _ ([(0, .slice p n cap), (1, v), (2, .int .i64 most), (7, .pointer (some ⟨b7, 0, none⟩)), (8, .pointer (some ⟨b8, 0, none⟩)), (34, .slice p n cap), (35, .int .i64 n), (36, .int .i64 (i : Nat))]) ([RowP b7 (rt os i), Z.cl b8 33 [vp, vl], OC vp (xt os i), OB vl (xt os i)] ++ Fr) _
              refine Z.j_app (by repeat (first | exact Z.App.nil | apply Z.App.cons)) ?_
              refine Z.j_seq ?_
              refine Z.j_region ?_
              refine Z.s_val (Z.pv_lss rfl rfl) ?_
              refine Z.j_nil ?_
              refine Z.j_then ?_
              refine Z.j_seq ?_
              refine Z.j_cond rfl (fun hc37 => ?_) (fun hc37 => ?_)
              · try (with_reducible first | replace hc37 := of_decide_eq_true hc37 | replace hc37 := of_decide_eq_false hc37 | replace hc37 := Z.nd_true hc37 | replace hc37 := Z.nd_false hc37 | replace hc37 := Z.nn_true hc37 | replace hc37 := Z.nn_false hc37 | replace hc37 := Z.nb_true hc37 | replace hc37 := Z.nb_false hc37)
                first
                | (exfalso; first | (cases hc37; done) | omega)
                | skip
                  obtain ⟨b1, o1, e1, hr1⟩ := hro (by omega)
                  refine Z.j_skip ?_
                  refine Z.j_then ?_
                  refine Z.j_seq ?_
                  refine Z.j_block ?_
                  refine Z.j_seq ?_
                  refine Z.j_region ?_
                  refine Z.s_val (Z.pv_indexAddr (o' := o1 + i * 3) (b := b1) (o := o1) (len := n) (cap := cap) (by show some (Value.slice p n cap) = _; rw [e1]) rfl Try.underlying22 Try.sizeOf38 (by omega) (by simp)) ?_
                  refine Z.s_val (Z.pv_loadAr (b := b1) (o := o1) (j := i * 3) rfl hr1 rfl Try.isAgg38 Try.sizeOf38 (slc_op (by omega))) ?_
                  refine Z.s_alloc Try.zeroValue38 (fun b10 => ?_)
                  refine Z.s_storeA rfl rfl Try.sizeOf38 rfl (by repeat (first | with_reducible exact Z.Upd.here | apply Z.Upd.there)) (by rfl) ?_
                  refine Z.j_nil ?_
                  refine Z.j_then ?_
                  refine Z.j_seq ?_
                  obtain ⟨hok, hla, hKB⟩ := rt_ok hos i (by omega)
                  have hR := xt_rel hos i (by omega)
                  have hl0 := hok.l0
                  have hps : (xt os i).ps.length ≤ 60 := by have := hR.last; omega
                  refine Z.j_region ?_
                  refine Z.s_val (Z.pv_loadA rfl (by repeat (first | with_reducible exact Z.Take.here | apply Z.Take.there)) Try.isAgg33 Try.sizeOf33 (by rfl)) ?_
                  refine Z.s_val (Z.pv_fieldAddr (o' := 1) rfl Try.underlying38 rfl Try.sizeOf36 rfl) ?_
                  refine Z.s_val (Z.pv_loadA rfl (by repeat (first | with_reducible exact Z.Take.here | apply Z.Take.there)) Try.isAgg36 Try.sizeOf36 (by rfl)) ?_
                  refine Z.s_callD rfl rfl rfl isFn9 (by repeat (first | with_reducible exact Z.Takes.nil | (apply Z.Takes.cons; (repeat (first | with_reducible exact Z.Take.here | apply Z.Take.there))))) (by repeat (first | exact Z.App.nil | apply Z.App.cons)) (xver_spec _ _ _ _ _ hR hps _ _) ?_
                  refine Z.s_val (Z.pv_assign rfl) ?_
                  refine Z.j_nil ?_
                  refine Z.j_then ?_
                  refine Z.j_seq ?_
                  refine Z.j_region ?_
                  refine Z.s_val (Z.pv_assign rfl) ?_
                  refine Z.j_nil ?_
                  refine Z.j_then ?_
                  refine Z.j_seq ?_
                  refine Z.j_seq ?_
                  refine Z.j_region ?_
                  refine Z.s_val (Z.pv_fieldAddr (o' := 0) rfl Try.underlying38 rfl Try.sizeOf3 rfl) ?_
                  refine Z.s_val (Z.pv_load1 rfl (by repeat (first | with_reducible exact Z.Take.here | apply Z.Take.there)) Try.isAgg3 (by rfl)) ?_
                  refine Z.j_nil ?_
                  refine Z.j_then ?_
                  refine Z.j_block ?_
                  refine Z.j_seq ?_
                  refine Z.j_seq ?_
                  refine Z.j_region ?_
                  refine Z.s_val (Z.pv_eql rfl rfl) ?_
                  refine Z.s_val (Z.pv_assign rfl) ?_
                  refine Z.j_nil ?_
                  refine Z.j_then ?_
                  refine Z.j_cond rfl (fun hc46 => ?_) (fun hc46 => ?_)
                  · try (with_reducible first | replace hc46 := of_decide_eq_true hc46 | replace hc46 := of_decide_eq_false hc46 | replace hc46 := Z.nd_true hc46 | replace hc46 := Z.nd_false hc46 | replace hc46 := Z.nn_true hc46 | replace hc46 := Z.nn_false hc46 | replace hc46 := Z.nb_true hc46 | replace hc46 := Z.nb_false hc46)
                    first
                    | (exfalso; first | (cases hc46; done) | omega)
                    | skip
                      try (have hk00 : (os.getD i OpR.z).kd = 0 := hc46)
                      refine Z.j_skip ?_
                      refine Z.j_then ?_
                      refine Z.j_cond rfl (fun hc46 => ?_) (fun hc46 => ?_)
                      · try (with_reducible first | replace hc46 := of_decide_eq_true hc46 | replace hc46 := of_decide_eq_false hc46 | replace hc46 := Z.nd_true hc46 | replace hc46 := Z.nd_false hc46 | replace hc46 := Z.nn_true hc46 | replace hc46 := Z.nn_false hc46 | replace hc46 := Z.nb_true hc46 | replace hc46 := Z.nb_false hc46)
                        first
                        | (exfalso; first | (cases hc46; done) | omega)
                        | skip
                          try (have hk00 : (os.getD i OpR.z).kd = 0 := hc46)
                          refine Z.j_seq ?_
                          refine Z.j_region ?_
                          refine Z.s_val (Z.pv_loadA rfl (by repeat (first | with_reducible exact Z.Take.here | apply Z.Take.there)) Try.isAgg33 Try.sizeOf33 (by rfl)) ?_
                          refine Z.s_val (Z.pv_fieldAddr (o' := 1) rfl Try.underlying38 rfl Try.sizeOf36 rfl) ?_
                          refine Z.s_val (Z.pv_loadA rfl (by repeat (first | with_reducible exact Z.Take.here | apply Z.Take.there)) Try.isAgg36 Try.sizeOf36 (by rfl)) ?_
                          refine Z.s_call rfl rfl rfl isFn10 (by repeat (first | with_reducible exact Z.Takes.nil | (apply Z.Takes.cons; (repeat (first | with_reducible exact Z.Take.here | apply Z.Take.there))))) (xput_spec _ vp vl _ _ hR hps _ _) ?_
                          rintro _ _ ⟨vp2, vl2, rfl, rfl⟩
                          refine Z.j_app (by repeat (first | exact Z.App.nil | apply Z.App.cons)) ?_
                          refine Z.J.own_one (T := 36) (k := 2) (v := vp2) (by repeat (first | with_reducible exact Z.Take.here | apply Z.Take.there)) (fun hv1 => ?_)
                          refine Z.J.own_one (T := 4) (k := 1) (v := vl2) (by repeat (first | with_reducible exact Z.Take.here | apply Z.Take.there)) (fun hv2 => ?_)
                          refine Z.s_storeA rfl rfl Try.sizeOf33 (ones2 hv1 hv2) (by repeat (first | with_reducible exact Z.Upd.here | apply Z.Upd.there)) (by rfl) ?_
                          refine Z.j_nil ?_
                          refine Z.j_then ?_
                          refine Z.j_drawTm 7 [⟨none, none, [1], fun ρ => Z.cl b10 38 [.int .i64 (os.getD i OpR.z).kd, .int .i64 (os.getD i OpR.z).l, .int .u32 (os.getD i OpR.z).k]⟩, ⟨none, (some 2), [], fun ρ => RowP b7 (rt os i)⟩, ⟨(some 2), none, [], fun ρ => RowP b7 ((rt os i).put (⟨(os.getD i OpR.z).l, (os.getD i OpR.z).k⟩ : Cell))⟩, ⟨none, none, [4], fun ρ => Z.cl b8 33 [vp2, vl2]⟩, ⟨none, none, [5], fun ρ => OC vp2 ((xt os i).put (⟨(os.getD i OpR.z).l, (os.getD i OpR.z).k⟩ : Cell))⟩] [2] (fun ρ => [.pointer (some ⟨b10, 1, none⟩), .agg #[.int .i64 (os.getD i OpR.z).l, .int .u32 (os.getD i OpR.z).k], .int .i64 ((rt os i).last + 1), .pointer (some ⟨b8, 0, none⟩), vp2, .int .i64 ((xt os i).put (⟨(os.getD i OpR.z).l, (os.getD i OpR.z).k⟩ : Cell)).ps.length, .bool (decide (((rt os i).last + 1) = (((xt os i).put (⟨(os.getD i OpR.z).l, (os.getD i OpR.z).k⟩ : Cell)).ps.length : Int)))]) (by kernel_rfl) rfl (by kernel_rfl) (by kernel_rfl) (by rfl) (fun _ => rfl) ⟨fun _ _ => rfl, fun _ _ => rfl, trivial⟩ (fun ρ => (by repeat (first | with_reducible exact Z.Takes.nil | (apply Z.Takes.cons; (repeat (first | with_reducible exact Z.Take.here | apply Z.Take.there))) | exact Z.Takes.nil))) ?_ (fun ρ => ?_)
                          · skip
                            refine Z.tops_cons ?_ ?_
                            · refine Z.top_q (fun ρ => .pointer (some ⟨b10, 1, none⟩)) rfl (fun _ => rfl) (fun ρ Rr => ?_)
                              show Z.HQ _ _ _ _ _ _ (Rr) _ _
                              exact (Z.hq_val (Z.pv_fieldAddr (o' := 1) rfl Try.underlying38 rfl Try.sizeOf36 rfl))
                            refine Z.tops_cons ?_ ?_
                            · refine Z.top_q (fun ρ => .agg #[.int .i64 (os.getD i OpR.z).l, .int .u32 (os.getD i OpR.z).k]) rfl (fun _ => rfl) (fun ρ Rr => ?_)
                              show Z.HQ _ _ _ _ _ _ (Z.cl b10 38 [.int .i64 (os.getD i OpR.z).kd, .int .i64 (os.getD i OpR.z).l, .int .u32 (os.getD i OpR.z).k] :: Rr) _ _
                              exact (Z.hq_val (Z.pv_loadA rfl (by repeat (first | with_reducible exact Z.Take.here | apply Z.Take.there)) Try.isAgg36 Try.sizeOf36 (by rfl)))
                            refine Z.tops_cons ?_ ?_
                            · refine Z.top_c rfl (fun ρ Rr => ?_)
                              refine Z.hn_of rfl (by rfl) rfl (by rfl) ?_
                              show Z.J _ _ _ _ ([RowP b7 (rt os i)] ++ Rr) _
                              refine Z.j_app (by repeat (first | exact Z.App.nil | apply Z.App.cons)) ?_
                              refine Z.s_callD rfl rfl rfl isFn11 (by repeat (first | with_reducible exact Z.Takes.nil | (apply Z.Takes.cons; (repeat (first | with_reducible exact Z.Take.here | apply Z.Take.there))))) (by repeat (first | exact Z.App.nil | apply Z.App.cons)) (put_spec _ _ (rt os i) _ _ hok.l0 hok.l1) ?_
                              refine Z.j_nil ?_
                              refine Z.hn_end (by rfl) (fun w hs => ⟨rfl, Z.st_td (by repeat (first | with_reducible exact Z.Takes.nil | (apply Z.Takes.cons; (repeat (first | exact Z.Take.here | apply Z.Take.there))) | exact Z.Takes.nil)) (by repeat (first | with_reducible exact Z.Drop.nil | apply Z.Drop.cons)) w hs⟩)
                            refine Z.tops_cons ?_ ?_
                            · refine Z.top_q (fun ρ => .pointer (some ⟨b8, 0, none⟩)) rfl (fun _ => rfl) (fun ρ Rr => ?_)
                              show Z.HQ _ _ _ _ _ _ (Rr) _ _
                              exact (Z.hq_val (Z.pv_fieldAddr (o' := 0) rfl Try.underlying33 rfl Try.sizeOf30 rfl))
                            refine Z.tops_cons ?_ ?_
                            · refine Z.top_q (fun ρ => vp2) rfl (fun _ => rfl) (fun ρ Rr => ?_)
                              show Z.HQ _ _ _ _ _ _ (Z.cl b8 33 [vp2, vl2] :: Rr) _ _
                              exact (Z.hq_val (Z.pv_load1 rfl (by repeat (first | with_reducible exact Z.Take.here | apply Z.Take.there)) Try.isAgg30 (by rfl)))
                            refine Z.tops_cons ?_ ?_
                            · refine Z.top_q (fun ρ => .int .i64 ((xt os i).put (⟨(os.getD i OpR.z).l, (os.getD i OpR.z).k⟩ : Cell)).ps.length) rfl (fun _ => rfl) (fun ρ Rr => ?_)
                              show Z.HQ _ _ _ _ _ _ (OC vp2 ((xt os i).put (⟨(os.getD i OpR.z).l, (os.getD i OpR.z).k⟩ : Cell)) :: Rr) _ _
                              exact (Z.hq_val (Z.pv_lenO rfl (by repeat (first | with_reducible exact Z.Take.here | apply Z.Take.there)) Try.underlying30))
                            refine Z.tops_cons ?_ ?_
                            · refine Z.top_q (fun ρ => .bool (decide (((rt os i).last + 1) = (((xt os i).put (⟨(os.getD i OpR.z).l, (os.getD i OpR.z).k⟩ : Cell)).ps.length : Int)))) rfl (fun _ => rfl) (fun ρ Rr => ?_)
                              show Z.HQ _ _ _ _ _ _ (Rr) _ _
                              exact (Z.hq_val (Z.pv_eql rfl rfl))
                            exact Z.tops_nil
                          · show Z.J _ _ _ _ ([Z.cl b10 38 [.int .i64 (os.getD i OpR.z).kd, .int .i64 (os.getD i OpR.z).l, .int .u32 (os.getD i OpR.z).k], RowP b7 ((rt os i).put (⟨(os.getD i OpR.z).l, (os.getD i OpR.z).k⟩ : Cell)), Z.cl b8 33 [vp2, vl2], OC vp2 ((xt os i).put (⟨(os.getD i OpR.z).l, (os.getD i OpR.z).k⟩ : Cell))] ++ _) _
                            refine Z.j_app (by repeat (first | exact Z.App.nil | apply Z.App.cons)) ?_
                            refine Z.s_val (Z.pv_assign rfl) ?_
                            refine Z.s_is 12 rfl (show _ = Value.bool true from congrArg Value.bool (decide_eq_true (by rw [put_len]; have := hR.last; omega))) ?_
                            refine Z.j_nil ?_
                            refine Z.j_blk ?_
                            refine Z.j_then ?_
                            refine Z.j_seq ?_
                            obtain ⟨hok2, hla2, hKB2⟩ := rt_ok hos (i + 1) (by omega)
                            have hR2 := xt_rel hos (i + 1) (by omega)
                            have hps2 : (xt os (i + 1)).ps.length ≤ 60 := by have := hR2.last; omega
                            first
                            | (refine Z.j_cast (A := RowP b7 ((rt os i).put (⟨(os.getD i OpR.z).l, (os.getD i OpR.z).k⟩ : Cell))) (B := RowP b7 (rt os (i + 1))) (by repeat (first | with_reducible exact Z.Take.here | apply Z.Take.there)) (by rw [rt_put (by first | exact .inl hk00 | exact .inr hc46)]) ?_; refine Z.j_cast (A := OC vp2 ((xt os i).put (⟨(os.getD i OpR.z).l, (os.getD i OpR.z).k⟩ : Cell))) (B := OC vp2 (xt os (i + 1))) (by repeat (first | with_reducible exact Z.Take.here | apply Z.Take.there)) (by rw [xt_put (by first | exact .inl hk00 | exact .inr hc46)]) ?_; refine Z.j_cast (A := OB vl2 ((xt os i).put (⟨(os.getD i OpR.z).l, (os.getD i OpR.z).k⟩ : Cell))) (B := OB vl2 (xt os (i + 1))) (by repeat (first | with_reducible exact Z.Take.here | apply Z.Take.there)) (by rw [xt_put (by first | exact .inl hk00 | exact .inr hc46)]) ?_)
                            | (refine Z.j_cast (A := RowP b7 ((rt os i).drop (⟨(os.getD i OpR.z).l, (os.getD i OpR.z).k⟩ : Cell))) (B := RowP b7 (rt os (i + 1))) (by repeat (first | with_reducible exact Z.Take.here | apply Z.Take.there)) (by rw [rt_drop (not_or.2 ⟨hk01, hc46⟩) hc60]) ?_; refine Z.j_cast (A := OC vp ((xt os i).drop (⟨(os.getD i OpR.z).l, (os.getD i OpR.z).k⟩ : Cell))) (B := OC vp (xt os (i + 1))) (by repeat (first | with_reducible exact Z.Take.here | apply Z.Take.there)) (by rw [xt_drop (not_or.2 ⟨hk01, hc46⟩) hc60]) ?_; refine Z.j_cast (A := OB vl2 ((xt os i).drop (⟨(os.getD i OpR.z).l, (os.getD i OpR.z).k⟩ : Cell))) (B := OB vl2 (xt os (i + 1))) (by repeat (first | with_reducible exact Z.Take.here | apply Z.Take.there)) (by rw [xt_drop (not_or.2 ⟨hk01, hc46⟩) hc60]) ?_)
                            | (refine Z.j_cast (A := RowP b7 (rt os i)) (B := RowP b7 (rt os (i + 1))) (by repeat (first | with_reducible exact Z.Take.here | apply Z.Take.there)) (by rw [rt_same (not_or.2 ⟨hk01, hc46⟩) hc60]) ?_; refine Z.j_cast (A := OC vp (xt os i)) (B := OC vp (xt os (i + 1))) (by repeat (first | with_reducible exact Z.Take.here | apply Z.Take.there)) (by rw [xt_same (not_or.2 ⟨hk01, hc46⟩) hc60]) ?_; refine Z.j_cast (A := OB vl (xt os i)) (B := OB vl (xt os (i + 1))) (by repeat (first | with_reducible exact Z.Take.here | apply Z.Take.there)) (by rw [xt_same (not_or.2 ⟨hk01, hc46⟩) hc60]) ?_)
                            refine Z.j_region ?_
                            refine Z.s_val (Z.pv_fieldAddr (o' := 1) rfl Try.underlying38 rfl Try.sizeOf36 rfl) ?_
                            refine Z.s_val (Z.pv_loadA rfl (by repeat (first | with_reducible exact Z.Take.here | apply Z.Take.there)) Try.isAgg36 Try.sizeOf36 (by rfl)) ?_
                            refine Z.s_callD rfl rfl rfl isFn14 (by repeat (first | with_reducible exact Z.Takes.nil | (apply Z.Takes.cons; (repeat (first | with_reducible exact Z.Take.here | apply Z.Take.there))))) (by repeat (first | exact Z.App.nil | apply Z.App.cons)) (version_spec _ _ (rt os (i + 1)) _ _) ?_
                            refine Z.s_val (Z.pv_move rfl) ?_
                            refine Z.s_val (Z.pv_extract rfl rfl) ?_
                            refine Z.s_val (Z.pv_extract rfl rfl) ?_
                            refine Z.s_val (Z.pv_assign rfl) ?_
                            refine Z.s_val (Z.pv_assign rfl) ?_
                            refine Z.j_nil ?_
                            refine Z.j_then ?_
                            refine Z.j_seq ?_
                            refine Z.j_region ?_
                            refine Z.s_val (Z.pv_loadA rfl (by repeat (first | with_reducible exact Z.Take.here | apply Z.Take.there)) Try.isAgg33 Try.sizeOf33 (by rfl)) ?_
                            refine Z.s_val (Z.pv_fieldAddr (o' := 1) rfl Try.underlying38 rfl Try.sizeOf36 rfl) ?_
                            refine Z.s_val (Z.pv_loadA rfl (by repeat (first | with_reducible exact Z.Take.here | apply Z.Take.there)) Try.isAgg36 Try.sizeOf36 (by rfl)) ?_
                            refine Z.s_callD rfl rfl rfl isFn9 (by repeat (first | with_reducible exact Z.Takes.nil | (apply Z.Takes.cons; (repeat (first | with_reducible exact Z.Take.here | apply Z.Take.there))))) (by repeat (first | exact Z.App.nil | apply Z.App.cons)) (xver_spec _ _ _ _ _ hR2 hps2 _ _) ?_
                            refine Z.s_val (Z.pv_assign rfl) ?_
                            refine Z.j_nil ?_
                            refine Z.j_then ?_
                            refine Z.j_seq ?_
                            refine Z.j_draw (vals := [_, _, _, _, _, _, _, _, _, _, _, _, _, _, _, _, _, _, _, _, _, _, _, _, _, _, _, _, _]) 29 (by kernel_rfl) (by kernel_rfl) rfl (by rfl) (Z.heads_cons (Z.hq_val (Z.pv_move (by rfl))) (Z.heads_cons (Z.hq_val (Z.pv_not (by rfl))) (Z.heads_cons (Z.hq_val (Z.pv_move (by rfl))) (Z.heads_cons (Z.hq_val (Z.pv_move (by rfl))) (Z.heads_cons (Z.hq_val (Z.pv_move (by rfl))) (Z.heads_cons (Z.hq_val (Z.pv_is (Z.pv_neq (by rfl) (by rfl)) (show _ = Value.bool false from nsame_i _))) (Z.heads_cons (Z.hq_val (Z.pv_pick (by rfl) (by rfl))) (Z.heads_cons (Z.hq_val (Z.pv_move (by rfl))) (Z.heads_cons (Z.hq_val (Z.pv_move (by rfl))) (Z.heads_cons (Z.hq_val (Z.pv_move (by rfl))) (Z.heads_cons (Z.hq_val (Z.pv_gtr (by rfl) (by rfl))) (Z.heads_cons (Z.hq_val (Z.pv_is (Z.pv_neqb (by rfl) (by rfl) Try.underlying4) (show _ = Value.bool false from by rw [rel_pos hR2]; exact nsame_b _))) (Z.heads_cons (Z.hq_val (Z.pv_pick (by rfl) (by rfl))) (Z.heads_cons (Z.hq_val (Z.pv_move (by rfl))) (Z.heads_cons (Z.hq_val (Z.pv_fieldAddr (o' := 1) (by rfl) Try.underlying38 (by rfl) (by exact Try.sizeOf36) (by rfl))) (Z.heads_cons (Z.hq_val (Z.pv_loadA (by rfl) (by repeat (first | with_reducible exact Z.Take.here | apply Z.Take.there)) Try.isAgg36 (by exact Try.sizeOf36) (by rfl))) (Z.heads_cons (Z.hq_callD (by rfl) (by rfl) (by rfl) isFn15 (by repeat (first | with_reducible exact Z.Takes.nil | (apply Z.Takes.cons; (repeat (first | with_reducible exact Z.Take.here | apply Z.Take.there))))) (by repeat (first | with_reducible exact Z.Takes.nil | (apply Z.Takes.cons; (repeat (first | with_reducible exact Z.Take.here | apply Z.Take.there))))) (seen_spec _ _ (rt os (i + 1)) _ _)) (Z.heads_cons (Z.hq_val (Z.pv_loadA (by rfl) (by repeat (first | with_reducible exact Z.Take.here | apply Z.Take.there)) Try.isAgg33 (by exact Try.sizeOf33) (by rfl))) (Z.heads_cons (Z.hq_val (Z.pv_fieldAddr (o' := 1) (by rfl) Try.underlying38 (by rfl) (by exact Try.sizeOf36) (by rfl))) (Z.heads_cons (Z.hq_val (Z.pv_loadA (by rfl) (by repeat (first | with_reducible exact Z.Take.here | apply Z.Take.there)) Try.isAgg36 (by exact Try.sizeOf36) (by rfl))) (Z.heads_cons (Z.hq_callD (by rfl) (by rfl) (by rfl) isFn16 (by repeat (first | with_reducible exact Z.Takes.nil | (apply Z.Takes.cons; (repeat (first | with_reducible exact Z.Take.here | apply Z.Take.there))))) (by repeat (first | with_reducible exact Z.Takes.nil | (apply Z.Takes.cons; (repeat (first | with_reducible exact Z.Take.here | apply Z.Take.there))))) (xseen_spec _ _ _ _ _ hR2 hps2 _ _)) (Z.heads_cons (Z.hq_val (Z.pv_is (Z.pv_neqb (by rfl) (by rfl) Try.underlying4) (show _ = Value.bool false from nsame_b _))) (Z.heads_cons (Z.hq_val (Z.pv_pick (by rfl) (by rfl))) (Z.heads_cons (Z.hq_val (Z.pv_move (by rfl))) (Z.heads_cons (Z.hq_callD (by rfl) (by rfl) (by rfl) isFn17 (by repeat (first | with_reducible exact Z.Takes.nil | (apply Z.Takes.cons; (repeat (first | with_reducible exact Z.Take.here | apply Z.Take.there))))) (by repeat (first | with_reducible exact Z.Takes.nil | (apply Z.Takes.cons; (repeat (first | with_reducible exact Z.Take.here | apply Z.Take.there))))) (ever_spec _ _ (rt os (i + 1)))) (Z.heads_cons (Z.hq_val (Z.pv_loadA (by rfl) (by repeat (first | with_reducible exact Z.Take.here | apply Z.Take.there)) Try.isAgg33 (by exact Try.sizeOf33) (by rfl))) (Z.heads_cons (Z.hq_callD (by rfl) (by rfl) (by rfl) isFn18 (by repeat (first | with_reducible exact Z.Takes.nil | (apply Z.Takes.cons; (repeat (first | with_reducible exact Z.Take.here | apply Z.Take.there))))) (by repeat (first | with_reducible exact Z.Takes.nil | (apply Z.Takes.cons; (repeat (first | with_reducible exact Z.Take.here | apply Z.Take.there))))) (xever_spec _ _ _ _ _ hR2 hps2)) (Z.heads_cons (Z.hq_val (Z.pv_is (Z.pv_neq (by rfl) (by rfl)) (show _ = Value.bool false from nsame_i _))) (Z.heads_cons (Z.hq_val (Z.pv_pick (by rfl) (by rfl))) Z.heads_nil))))))))))))))))))))))))))))) ?_
                            refine Z.j_nil ?_
                            refine Z.j_then ?_
                            refine Z.j_cond rfl (fun hc110 => ?_) (fun hc110 => ?_)
                            · try (with_reducible first | replace hc110 := of_decide_eq_true hc110 | replace hc110 := of_decide_eq_false hc110 | replace hc110 := Z.nd_true hc110 | replace hc110 := Z.nd_false hc110 | replace hc110 := Z.nn_true hc110 | replace hc110 := Z.nn_false hc110 | replace hc110 := Z.nb_true hc110 | replace hc110 := Z.nb_false hc110)
                              first
                              | (exfalso; first | (cases hc110; done) | omega)
                              | skip
                                refine Z.j_seq ?_
                                refine Z.j_region ?_
                                refine Z.s_val (Z.pv_assign rfl) ?_
                                refine Z.j_nil ?_
                                refine Z.j_then ?_
                                refine Z.j_ret ?_
                                refine Z.j_blk_ret ?_
                                refine Z.j_then_ret ?_
                                refine Z.j_then_ret ?_
                                refine Z.j_blk_ret ?_
                                refine Z.j_then_ret ?_
                                refine Z.j_doneM_ret (bs := []) .nil (Z.rv1 (Z.rv_tmp (t := 6) rfl)) ?_
                                exact Z.post_of ⟨rfl, rfl⟩ (by repeat (first | with_reducible exact Z.Takes.nil | (apply Z.Takes.cons; (repeat (first | with_reducible exact Z.Take.here | apply Z.Take.there))))) (by repeat (first | with_reducible exact Z.Drop.nil | apply Z.Drop.cons))
                            · try (with_reducible first | replace hc110 := of_decide_eq_true hc110 | replace hc110 := of_decide_eq_false hc110 | replace hc110 := Z.nd_true hc110 | replace hc110 := Z.nd_false hc110 | replace hc110 := Z.nn_true hc110 | replace hc110 := Z.nn_false hc110 | replace hc110 := Z.nb_true hc110 | replace hc110 := Z.nb_false hc110)
                              first
                              | (exfalso; first | (cases hc110; done) | omega)
                              | skip
                                refine Z.j_skip ?_
                                refine Z.j_blk ?_
                                refine Z.j_then ?_
                                refine Z.j_region ?_
                                refine Z.s_val (Z.pv_add rfl rfl (by first | exact IntWalk.i64_in _ (by omega) | rfl)) ?_
                                refine Z.s_val (Z.pv_move rfl) ?_
                                refine Z.j_nil ?_
                                refine Z.j_then ?_
                                first | (refine Z.j_nextG (X := { x : (Nat) × (Value) × (Value) // (x.1) ≤ n }) (EE := (fun (x : { x : (Nat) × (Value) × (Value) // (x.1) ≤ n }) => [(0, .slice p n cap), (1, v), (2, .int .i64 most), (7, .pointer (some ⟨b7, 0, none⟩)), (8, .pointer (some ⟨b8, 0, none⟩)), (34, .slice p n cap), (35, .int .i64 n), (36, .int .i64 ((x.1.1) : Nat))])) (LL := (fun (x : { x : (Nat) × (Value) × (Value) // (x.1) ≤ n }) => [RowP b7 (rt os (x.1.1)), Z.cl b8 33 [(x.1.2.1), (x.1.2.2)], OC (x.1.2.1) (xt os (x.1.1)), OB (x.1.2.2) (xt os (x.1.1))])) (μ := (fun (x : { x : (Nat) × (Value) × (Value) // (x.1) ≤ n }) => n - (x.1.1))) (x := ⟨(i, vp, vl), hinv⟩) ⟨(i + 1, vp2, vl2), by omega⟩ ?_ ?_ ?_; (show n - (i + 1) < n - i; omega); (exact (by repeat (first | exact trivial | refine ⟨rfl, ?_⟩))); (exact Z.st_td (by repeat (first | with_reducible exact Z.Takes.nil | (apply Z.Takes.cons; (repeat (first | with_reducible exact Z.Take.here | apply Z.Take.there))))) (by repeat (first | with_reducible exact Z.Drop.nil | apply Z.Drop.cons)))) | (refine Z.j_nextG (X := { x : (Nat) × (Value) × (Value) // (x.1) ≤ n }) (EE := (fun (x : { x : (Nat) × (Value) × (Value) // (x.1) ≤ n }) => [(0, .slice p n cap), (1, v), (2, .int .i64 most), (7, .pointer (some ⟨b7, 0, none⟩)), (8, .pointer (some ⟨b8, 0, none⟩)), (34, .slice p n cap), (35, .int .i64 n), (36, .int .i64 ((x.1.1) : Nat))])) (LL := (fun (x : { x : (Nat) × (Value) × (Value) // (x.1) ≤ n }) => [RowP b7 (rt os (x.1.1)), Z.cl b8 33 [(x.1.2.1), (x.1.2.2)], OC (x.1.2.1) (xt os (x.1.1)), OB (x.1.2.2) (xt os (x.1.1))])) (μ := (fun (x : { x : (Nat) × (Value) × (Value) // (x.1) ≤ n }) => n - (x.1.1))) (x := ⟨(i, vp, vl), hinv⟩) ⟨(i + 1, vp, vl2), by omega⟩ ?_ ?_ ?_; (show n - (i + 1) < n - i; omega); (exact (by repeat (first | exact trivial | refine ⟨rfl, ?_⟩))); (exact Z.st_td (by repeat (first | with_reducible exact Z.Takes.nil | (apply Z.Takes.cons; (repeat (first | with_reducible exact Z.Take.here | apply Z.Take.there))))) (by repeat (first | with_reducible exact Z.Drop.nil | apply Z.Drop.cons)))) | (refine Z.j_nextG (X := { x : (Nat) × (Value) × (Value) // (x.1) ≤ n }) (EE := (fun (x : { x : (Nat) × (Value) × (Value) // (x.1) ≤ n }) => [(0, .slice p n cap), (1, v), (2, .int .i64 most), (7, .pointer (some ⟨b7, 0, none⟩)), (8, .pointer (some ⟨b8, 0, none⟩)), (34, .slice p n cap), (35, .int .i64 n), (36, .int .i64 ((x.1.1) : Nat))])) (LL := (fun (x : { x : (Nat) × (Value) × (Value) // (x.1) ≤ n }) => [RowP b7 (rt os (x.1.1)), Z.cl b8 33 [(x.1.2.1), (x.1.2.2)], OC (x.1.2.1) (xt os (x.1.1)), OB (x.1.2.2) (xt os (x.1.1))])) (μ := (fun (x : { x : (Nat) × (Value) × (Value) // (x.1) ≤ n }) => n - (x.1.1))) (x := ⟨(i, vp, vl), hinv⟩) ⟨(i + 1, vp, vl), by omega⟩ ?_ ?_ ?_; (show n - (i + 1) < n - i; omega); (exact (by repeat (first | exact trivial | refine ⟨rfl, ?_⟩))); (exact Z.st_td (by repeat (first | with_reducible exact Z.Takes.nil | (apply Z.Takes.cons; (repeat (first | with_reducible exact Z.Take.here | apply Z.Take.there))))) (by repeat (first | with_reducible exact Z.Drop.nil | apply Z.Drop.cons))))
                      · exfalso; first | (cases hc46; done) | (simp at hc46; done) | (simp at hc46; omega) | (replace hc46 := of_decide_eq_true hc46; contradiction) | (replace hc46 := of_decide_eq_false hc46; contradiction)
                  · try (with_reducible first | replace hc46 := of_decide_eq_true hc46 | replace hc46 := of_decide_eq_false hc46 | replace hc46 := Z.nd_true hc46 | replace hc46 := Z.nd_false hc46 | replace hc46 := Z.nn_true hc46 | replace hc46 := Z.nn_false hc46 | replace hc46 := Z.nb_true hc46 | replace hc46 := Z.nb_false hc46)
                    first
                    | (exfalso; first | (cases hc46; done) | omega)
                    | skip
                      try (have hk01 : ¬ (os.getD i OpR.z).kd = 0 := hc46)
                      refine Z.j_region ?_
                      refine Z.s_val (Z.pv_eql rfl rfl) ?_
                      refine Z.s_val (Z.pv_assign rfl) ?_
                      refine Z.j_nil ?_
                      refine Z.j_then ?_
                      refine Z.j_cond rfl (fun hc46 => ?_) (fun hc46 => ?_)
                      · try (with_reducible first | replace hc46 := of_decide_eq_true hc46 | replace hc46 := of_decide_eq_false hc46 | replace hc46 := Z.nd_true hc46 | replace hc46 := Z.nd_false hc46 | replace hc46 := Z.nn_true hc46 | replace hc46 := Z.nn_false hc46 | replace hc46 := Z.nb_true hc46 | replace hc46 := Z.nb_false hc46)
                        first
                        | (exfalso; first | (cases hc46; done) | omega)
                        | skip
                          try (have hk00 : (os.getD i OpR.z).kd = 0 := hc46)
                          refine Z.j_seq ?_
                          refine Z.j_region ?_
                          refine Z.s_val (Z.pv_loadA rfl (by repeat (first | with_reducible exact Z.Take.here | apply Z.Take.there)) Try.isAgg33 Try.sizeOf33 (by rfl)) ?_
                          refine Z.s_val (Z.pv_fieldAddr (o' := 1) rfl Try.underlying38 rfl Try.sizeOf36 rfl) ?_
                          refine Z.s_val (Z.pv_loadA rfl (by repeat (first | with_reducible exact Z.Take.here | apply Z.Take.there)) Try.isAgg36 Try.sizeOf36 (by rfl)) ?_
                          refine Z.s_call rfl rfl rfl isFn10 (by repeat (first | with_reducible exact Z.Takes.nil | (apply Z.Takes.cons; (repeat (first | with_reducible exact Z.Take.here | apply Z.Take.there))))) (xput_spec _ vp vl _ _ hR hps _ _) ?_
                          rintro _ _ ⟨vp2, vl2, rfl, rfl⟩
                          refine Z.j_app (by repeat (first | exact Z.App.nil | apply Z.App.cons)) ?_
                          refine Z.J.own_one (T := 36) (k := 2) (v := vp2) (by repeat (first | with_reducible exact Z.Take.here | apply Z.Take.there)) (fun hv1 => ?_)
                          refine Z.J.own_one (T := 4) (k := 1) (v := vl2) (by repeat (first | with_reducible exact Z.Take.here | apply Z.Take.there)) (fun hv2 => ?_)
                          refine Z.s_storeA rfl rfl Try.sizeOf33 (ones2 hv1 hv2) (by repeat (first | with_reducible exact Z.Upd.here | apply Z.Upd.there)) (by rfl) ?_
                          refine Z.j_nil ?_
                          refine Z.j_then ?_
                          refine Z.j_drawTm 7 [⟨none, none, [1], fun ρ => Z.cl b10 38 [.int .i64 (os.getD i OpR.z).kd, .int .i64 (os.getD i OpR.z).l, .int .u32 (os.getD i OpR.z).k]⟩, ⟨none, (some 2), [], fun ρ => RowP b7 (rt os i)⟩, ⟨(some 2), none, [], fun ρ => RowP b7 ((rt os i).put (⟨(os.getD i OpR.z).l, (os.getD i OpR.z).k⟩ : Cell))⟩, ⟨none, none, [4], fun ρ => Z.cl b8 33 [vp2, vl2]⟩, ⟨none, none, [5], fun ρ => OC vp2 ((xt os i).put (⟨(os.getD i OpR.z).l, (os.getD i OpR.z).k⟩ : Cell))⟩] [2] (fun ρ => [.pointer (some ⟨b10, 1, none⟩), .agg #[.int .i64 (os.getD i OpR.z).l, .int .u32 (os.getD i OpR.z).k], .int .i64 ((rt os i).last + 1), .pointer (some ⟨b8, 0, none⟩), vp2, .int .i64 ((xt os i).put (⟨(os.getD i OpR.z).l, (os.getD i OpR.z).k⟩ : Cell)).ps.length, .bool (decide (((rt os i).last + 1) = (((xt os i).put (⟨(os.getD i OpR.z).l, (os.getD i OpR.z).k⟩ : Cell)).ps.length : Int)))]) (by kernel_rfl) rfl (by kernel_rfl) (by kernel_rfl) (by rfl) (fun _ => rfl) ⟨fun _ _ => rfl, fun _ _ => rfl, trivial⟩ (fun ρ => (by repeat (first | with_reducible exact Z.Takes.nil | (apply Z.Takes.cons; (repeat (first | with_reducible exact Z.Take.here | apply Z.Take.there))) | exact Z.Takes.nil))) ?_ (fun ρ => ?_)
                          · skip
                            refine Z.tops_cons ?_ ?_
                            · refine Z.top_q (fun ρ => .pointer (some ⟨b10, 1, none⟩)) rfl (fun _ => rfl) (fun ρ Rr => ?_)
                              show Z.HQ _ _ _ _ _ _ (Rr) _ _
                              exact (Z.hq_val (Z.pv_fieldAddr (o' := 1) rfl Try.underlying38 rfl Try.sizeOf36 rfl))
                            refine Z.tops_cons ?_ ?_
                            · refine Z.top_q (fun ρ => .agg #[.int .i64 (os.getD i OpR.z).l, .int .u32 (os.getD i OpR.z).k]) rfl (fun _ => rfl) (fun ρ Rr => ?_)
                              show Z.HQ _ _ _ _ _ _ (Z.cl b10 38 [.int .i64 (os.getD i OpR.z).kd, .int .i64 (os.getD i OpR.z).l, .int .u32 (os.getD i OpR.z).k] :: Rr) _ _
                              exact (Z.hq_val (Z.pv_loadA rfl (by repeat (first | with_reducible exact Z.Take.here | apply Z.Take.there)) Try.isAgg36 Try.sizeOf36 (by rfl)))
                            refine Z.tops_cons ?_ ?_
                            · refine Z.top_c rfl (fun ρ Rr => ?_)
                              refine Z.hn_of rfl (by rfl) rfl (by rfl) ?_
                              show Z.J _ _ _ _ ([RowP b7 (rt os i)] ++ Rr) _
                              refine Z.j_app (by repeat (first | exact Z.App.nil | apply Z.App.cons)) ?_
                              refine Z.s_callD rfl rfl rfl isFn11 (by repeat (first | with_reducible exact Z.Takes.nil | (apply Z.Takes.cons; (repeat (first | with_reducible exact Z.Take.here | apply Z.Take.there))))) (by repeat (first | exact Z.App.nil | apply Z.App.cons)) (put_spec _ _ (rt os i) _ _ hok.l0 hok.l1) ?_
                              refine Z.j_nil ?_
                              refine Z.hn_end (by rfl) (fun w hs => ⟨rfl, Z.st_td (by repeat (first | with_reducible exact Z.Takes.nil | (apply Z.Takes.cons; (repeat (first | exact Z.Take.here | apply Z.Take.there))) | exact Z.Takes.nil)) (by repeat (first | with_reducible exact Z.Drop.nil | apply Z.Drop.cons)) w hs⟩)
                            refine Z.tops_cons ?_ ?_
                            · refine Z.top_q (fun ρ => .pointer (some ⟨b8, 0, none⟩)) rfl (fun _ => rfl) (fun ρ Rr => ?_)
                              show Z.HQ _ _ _ _ _ _ (Rr) _ _
                              exact (Z.hq_val (Z.pv_fieldAddr (o' := 0) rfl Try.underlying33 rfl Try.sizeOf30 rfl))
                            refine Z.tops_cons ?_ ?_
                            · refine Z.top_q (fun ρ => vp2) rfl (fun _ => rfl) (fun ρ Rr => ?_)
                              show Z.HQ _ _ _ _ _ _ (Z.cl b8 33 [vp2, vl2] :: Rr) _ _
                              exact (Z.hq_val (Z.pv_load1 rfl (by repeat (first | with_reducible exact Z.Take.here | apply Z.Take.there)) Try.isAgg30 (by rfl)))
                            refine Z.tops_cons ?_ ?_
                            · refine Z.top_q (fun ρ => .int .i64 ((xt os i).put (⟨(os.getD i OpR.z).l, (os.getD i OpR.z).k⟩ : Cell)).ps.length) rfl (fun _ => rfl) (fun ρ Rr => ?_)
                              show Z.HQ _ _ _ _ _ _ (OC vp2 ((xt os i).put (⟨(os.getD i OpR.z).l, (os.getD i OpR.z).k⟩ : Cell)) :: Rr) _ _
                              exact (Z.hq_val (Z.pv_lenO rfl (by repeat (first | with_reducible exact Z.Take.here | apply Z.Take.there)) Try.underlying30))
                            refine Z.tops_cons ?_ ?_
                            · refine Z.top_q (fun ρ => .bool (decide (((rt os i).last + 1) = (((xt os i).put (⟨(os.getD i OpR.z).l, (os.getD i OpR.z).k⟩ : Cell)).ps.length : Int)))) rfl (fun _ => rfl) (fun ρ Rr => ?_)
                              show Z.HQ _ _ _ _ _ _ (Rr) _ _
                              exact (Z.hq_val (Z.pv_eql rfl rfl))
                            exact Z.tops_nil
                          · show Z.J _ _ _ _ ([Z.cl b10 38 [.int .i64 (os.getD i OpR.z).kd, .int .i64 (os.getD i OpR.z).l, .int .u32 (os.getD i OpR.z).k], RowP b7 ((rt os i).put (⟨(os.getD i OpR.z).l, (os.getD i OpR.z).k⟩ : Cell)), Z.cl b8 33 [vp2, vl2], OC vp2 ((xt os i).put (⟨(os.getD i OpR.z).l, (os.getD i OpR.z).k⟩ : Cell))] ++ _) _
                            refine Z.j_app (by repeat (first | exact Z.App.nil | apply Z.App.cons)) ?_
                            refine Z.s_val (Z.pv_assign rfl) ?_
                            refine Z.s_is 12 rfl (show _ = Value.bool true from congrArg Value.bool (decide_eq_true (by rw [put_len]; have := hR.last; omega))) ?_
                            refine Z.j_nil ?_
                            refine Z.j_blk ?_
                            refine Z.j_then ?_
                            refine Z.j_seq ?_
                            obtain ⟨hok2, hla2, hKB2⟩ := rt_ok hos (i + 1) (by omega)
                            have hR2 := xt_rel hos (i + 1) (by omega)
                            have hps2 : (xt os (i + 1)).ps.length ≤ 60 := by have := hR2.last; omega
                            first
                            | (refine Z.j_cast (A := RowP b7 ((rt os i).put (⟨(os.getD i OpR.z).l, (os.getD i OpR.z).k⟩ : Cell))) (B := RowP b7 (rt os (i + 1))) (by repeat (first | with_reducible exact Z.Take.here | apply Z.Take.there)) (by rw [rt_put (by first | exact .inl hk00 | exact .inr hc46)]) ?_; refine Z.j_cast (A := OC vp2 ((xt os i).put (⟨(os.getD i OpR.z).l, (os.getD i OpR.z).k⟩ : Cell))) (B := OC vp2 (xt os (i + 1))) (by repeat (first | with_reducible exact Z.Take.here | apply Z.Take.there)) (by rw [xt_put (by first | exact .inl hk00 | exact .inr hc46)]) ?_; refine Z.j_cast (A := OB vl2 ((xt os i).put (⟨(os.getD i OpR.z).l, (os.getD i OpR.z).k⟩ : Cell))) (B := OB vl2 (xt os (i + 1))) (by repeat (first | with_reducible exact Z.Take.here | apply Z.Take.there)) (by rw [xt_put (by first | exact .inl hk00 | exact .inr hc46)]) ?_)
                            | (refine Z.j_cast (A := RowP b7 ((rt os i).drop (⟨(os.getD i OpR.z).l, (os.getD i OpR.z).k⟩ : Cell))) (B := RowP b7 (rt os (i + 1))) (by repeat (first | with_reducible exact Z.Take.here | apply Z.Take.there)) (by rw [rt_drop (not_or.2 ⟨hk01, hc46⟩) hc60]) ?_; refine Z.j_cast (A := OC vp ((xt os i).drop (⟨(os.getD i OpR.z).l, (os.getD i OpR.z).k⟩ : Cell))) (B := OC vp (xt os (i + 1))) (by repeat (first | with_reducible exact Z.Take.here | apply Z.Take.there)) (by rw [xt_drop (not_or.2 ⟨hk01, hc46⟩) hc60]) ?_; refine Z.j_cast (A := OB vl2 ((xt os i).drop (⟨(os.getD i OpR.z).l, (os.getD i OpR.z).k⟩ : Cell))) (B := OB vl2 (xt os (i + 1))) (by repeat (first | with_reducible exact Z.Take.here | apply Z.Take.there)) (by rw [xt_drop (not_or.2 ⟨hk01, hc46⟩) hc60]) ?_)
                            | (refine Z.j_cast (A := RowP b7 (rt os i)) (B := RowP b7 (rt os (i + 1))) (by repeat (first | with_reducible exact Z.Take.here | apply Z.Take.there)) (by rw [rt_same (not_or.2 ⟨hk01, hc46⟩) hc60]) ?_; refine Z.j_cast (A := OC vp (xt os i)) (B := OC vp (xt os (i + 1))) (by repeat (first | with_reducible exact Z.Take.here | apply Z.Take.there)) (by rw [xt_same (not_or.2 ⟨hk01, hc46⟩) hc60]) ?_; refine Z.j_cast (A := OB vl (xt os i)) (B := OB vl (xt os (i + 1))) (by repeat (first | with_reducible exact Z.Take.here | apply Z.Take.there)) (by rw [xt_same (not_or.2 ⟨hk01, hc46⟩) hc60]) ?_)
                            refine Z.j_region ?_
                            refine Z.s_val (Z.pv_fieldAddr (o' := 1) rfl Try.underlying38 rfl Try.sizeOf36 rfl) ?_
                            refine Z.s_val (Z.pv_loadA rfl (by repeat (first | with_reducible exact Z.Take.here | apply Z.Take.there)) Try.isAgg36 Try.sizeOf36 (by rfl)) ?_
                            refine Z.s_callD rfl rfl rfl isFn14 (by repeat (first | with_reducible exact Z.Takes.nil | (apply Z.Takes.cons; (repeat (first | with_reducible exact Z.Take.here | apply Z.Take.there))))) (by repeat (first | exact Z.App.nil | apply Z.App.cons)) (version_spec _ _ (rt os (i + 1)) _ _) ?_
                            refine Z.s_val (Z.pv_move rfl) ?_
                            refine Z.s_val (Z.pv_extract rfl rfl) ?_
                            refine Z.s_val (Z.pv_extract rfl rfl) ?_
                            refine Z.s_val (Z.pv_assign rfl) ?_
                            refine Z.s_val (Z.pv_assign rfl) ?_
                            refine Z.j_nil ?_
                            refine Z.j_then ?_
                            refine Z.j_seq ?_
                            refine Z.j_region ?_
                            refine Z.s_val (Z.pv_loadA rfl (by repeat (first | with_reducible exact Z.Take.here | apply Z.Take.there)) Try.isAgg33 Try.sizeOf33 (by rfl)) ?_
                            refine Z.s_val (Z.pv_fieldAddr (o' := 1) rfl Try.underlying38 rfl Try.sizeOf36 rfl) ?_
                            refine Z.s_val (Z.pv_loadA rfl (by repeat (first | with_reducible exact Z.Take.here | apply Z.Take.there)) Try.isAgg36 Try.sizeOf36 (by rfl)) ?_
                            refine Z.s_callD rfl rfl rfl isFn9 (by repeat (first | with_reducible exact Z.Takes.nil | (apply Z.Takes.cons; (repeat (first | with_reducible exact Z.Take.here | apply Z.Take.there))))) (by repeat (first | exact Z.App.nil | apply Z.App.cons)) (xver_spec _ _ _ _ _ hR2 hps2 _ _) ?_
                            refine Z.s_val (Z.pv_assign rfl) ?_
                            refine Z.j_nil ?_
                            refine Z.j_then ?_
                            refine Z.j_seq ?_
                            refine Z.j_draw (vals := [_, _, _, _, _, _, _, _, _, _, _, _, _, _, _, _, _, _, _, _, _, _, _, _, _, _, _, _, _]) 29 (by kernel_rfl) (by kernel_rfl) rfl (by rfl) (Z.heads_cons (Z.hq_val (Z.pv_move (by rfl))) (Z.heads_cons (Z.hq_val (Z.pv_not (by rfl))) (Z.heads_cons (Z.hq_val (Z.pv_move (by rfl))) (Z.heads_cons (Z.hq_val (Z.pv_move (by rfl))) (Z.heads_cons (Z.hq_val (Z.pv_move (by rfl))) (Z.heads_cons (Z.hq_val (Z.pv_is (Z.pv_neq (by rfl) (by rfl)) (show _ = Value.bool false from nsame_i _))) (Z.heads_cons (Z.hq_val (Z.pv_pick (by rfl) (by rfl))) (Z.heads_cons (Z.hq_val (Z.pv_move (by rfl))) (Z.heads_cons (Z.hq_val (Z.pv_move (by rfl))) (Z.heads_cons (Z.hq_val (Z.pv_move (by rfl))) (Z.heads_cons (Z.hq_val (Z.pv_gtr (by rfl) (by rfl))) (Z.heads_cons (Z.hq_val (Z.pv_is (Z.pv_neqb (by rfl) (by rfl) Try.underlying4) (show _ = Value.bool false from by rw [rel_pos hR2]; exact nsame_b _))) (Z.heads_cons (Z.hq_val (Z.pv_pick (by rfl) (by rfl))) (Z.heads_cons (Z.hq_val (Z.pv_move (by rfl))) (Z.heads_cons (Z.hq_val (Z.pv_fieldAddr (o' := 1) (by rfl) Try.underlying38 (by rfl) (by exact Try.sizeOf36) (by rfl))) (Z.heads_cons (Z.hq_val (Z.pv_loadA (by rfl) (by repeat (first | with_reducible exact Z.Take.here | apply Z.Take.there)) Try.isAgg36 (by exact Try.sizeOf36) (by rfl))) (Z.heads_cons (Z.hq_callD (by rfl) (by rfl) (by rfl) isFn15 (by repeat (first | with_reducible exact Z.Takes.nil | (apply Z.Takes.cons; (repeat (first | with_reducible exact Z.Take.here | apply Z.Take.there))))) (by repeat (first | with_reducible exact Z.Takes.nil | (apply Z.Takes.cons; (repeat (first | with_reducible exact Z.Take.here | apply Z.Take.there))))) (seen_spec _ _ (rt os (i + 1)) _ _)) (Z.heads_cons (Z.hq_val (Z.pv_loadA (by rfl) (by repeat (first | with_reducible exact Z.Take.here | apply Z.Take.there)) Try.isAgg33 (by exact Try.sizeOf33) (by rfl))) (Z.heads_cons (Z.hq_val (Z.pv_fieldAddr (o' := 1) (by rfl) Try.underlying38 (by rfl) (by exact Try.sizeOf36) (by rfl))) (Z.heads_cons (Z.hq_val (Z.pv_loadA (by rfl) (by repeat (first | with_reducible exact Z.Take.here | apply Z.Take.there)) Try.isAgg36 (by exact Try.sizeOf36) (by rfl))) (Z.heads_cons (Z.hq_callD (by rfl) (by rfl) (by rfl) isFn16 (by repeat (first | with_reducible exact Z.Takes.nil | (apply Z.Takes.cons; (repeat (first | with_reducible exact Z.Take.here | apply Z.Take.there))))) (by repeat (first | with_reducible exact Z.Takes.nil | (apply Z.Takes.cons; (repeat (first | with_reducible exact Z.Take.here | apply Z.Take.there))))) (xseen_spec _ _ _ _ _ hR2 hps2 _ _)) (Z.heads_cons (Z.hq_val (Z.pv_is (Z.pv_neqb (by rfl) (by rfl) Try.underlying4) (show _ = Value.bool false from nsame_b _))) (Z.heads_cons (Z.hq_val (Z.pv_pick (by rfl) (by rfl))) (Z.heads_cons (Z.hq_val (Z.pv_move (by rfl))) (Z.heads_cons (Z.hq_callD (by rfl) (by rfl) (by rfl) isFn17 (by repeat (first | with_reducible exact Z.Takes.nil | (apply Z.Takes.cons; (repeat (first | with_reducible exact Z.Take.here | apply Z.Take.there))))) (by repeat (first | with_reducible exact Z.Takes.nil | (apply Z.Takes.cons; (repeat (first | with_reducible exact Z.Take.here | apply Z.Take.there))))) (ever_spec _ _ (rt os (i + 1)))) (Z.heads_cons (Z.hq_val (Z.pv_loadA (by rfl) (by repeat (first | with_reducible exact Z.Take.here | apply Z.Take.there)) Try.isAgg33 (by exact Try.sizeOf33) (by rfl))) (Z.heads_cons (Z.hq_callD (by rfl) (by rfl) (by rfl) isFn18 (by repeat (first | with_reducible exact Z.Takes.nil | (apply Z.Takes.cons; (repeat (first | with_reducible exact Z.Take.here | apply Z.Take.there))))) (by repeat (first | with_reducible exact Z.Takes.nil | (apply Z.Takes.cons; (repeat (first | with_reducible exact Z.Take.here | apply Z.Take.there))))) (xever_spec _ _ _ _ _ hR2 hps2)) (Z.heads_cons (Z.hq_val (Z.pv_is (Z.pv_neq (by rfl) (by rfl)) (show _ = Value.bool false from nsame_i _))) (Z.heads_cons (Z.hq_val (Z.pv_pick (by rfl) (by rfl))) Z.heads_nil))))))))))))))))))))))))))))) ?_
                            refine Z.j_nil ?_
                            refine Z.j_then ?_
                            refine Z.j_cond rfl (fun hc110 => ?_) (fun hc110 => ?_)
                            · try (with_reducible first | replace hc110 := of_decide_eq_true hc110 | replace hc110 := of_decide_eq_false hc110 | replace hc110 := Z.nd_true hc110 | replace hc110 := Z.nd_false hc110 | replace hc110 := Z.nn_true hc110 | replace hc110 := Z.nn_false hc110 | replace hc110 := Z.nb_true hc110 | replace hc110 := Z.nb_false hc110)
                              first
                              | (exfalso; first | (cases hc110; done) | omega)
                              | skip
                                refine Z.j_seq ?_
                                refine Z.j_region ?_
                                refine Z.s_val (Z.pv_assign rfl) ?_
                                refine Z.j_nil ?_
                                refine Z.j_then ?_
                                refine Z.j_ret ?_
                                refine Z.j_blk_ret ?_
                                refine Z.j_then_ret ?_
                                refine Z.j_then_ret ?_
                                refine Z.j_blk_ret ?_
                                refine Z.j_then_ret ?_
                                refine Z.j_doneM_ret (bs := []) .nil (Z.rv1 (Z.rv_tmp (t := 6) rfl)) ?_
                                exact Z.post_of ⟨rfl, rfl⟩ (by repeat (first | with_reducible exact Z.Takes.nil | (apply Z.Takes.cons; (repeat (first | with_reducible exact Z.Take.here | apply Z.Take.there))))) (by repeat (first | with_reducible exact Z.Drop.nil | apply Z.Drop.cons))
                            · try (with_reducible first | replace hc110 := of_decide_eq_true hc110 | replace hc110 := of_decide_eq_false hc110 | replace hc110 := Z.nd_true hc110 | replace hc110 := Z.nd_false hc110 | replace hc110 := Z.nn_true hc110 | replace hc110 := Z.nn_false hc110 | replace hc110 := Z.nb_true hc110 | replace hc110 := Z.nb_false hc110)
                              first
                              | (exfalso; first | (cases hc110; done) | omega)
                              | skip
                                refine Z.j_skip ?_
                                refine Z.j_blk ?_
                                refine Z.j_then ?_
                                refine Z.j_region ?_
                                refine Z.s_val (Z.pv_add rfl rfl (by first | exact IntWalk.i64_in _ (by omega) | rfl)) ?_
                                refine Z.s_val (Z.pv_move rfl) ?_
                                refine Z.j_nil ?_
                                refine Z.j_then ?_
                                first | (refine Z.j_nextG (X := { x : (Nat) × (Value) × (Value) // (x.1) ≤ n }) (EE := (fun (x : { x : (Nat) × (Value) × (Value) // (x.1) ≤ n }) => [(0, .slice p n cap), (1, v), (2, .int .i64 most), (7, .pointer (some ⟨b7, 0, none⟩)), (8, .pointer (some ⟨b8, 0, none⟩)), (34, .slice p n cap), (35, .int .i64 n), (36, .int .i64 ((x.1.1) : Nat))])) (LL := (fun (x : { x : (Nat) × (Value) × (Value) // (x.1) ≤ n }) => [RowP b7 (rt os (x.1.1)), Z.cl b8 33 [(x.1.2.1), (x.1.2.2)], OC (x.1.2.1) (xt os (x.1.1)), OB (x.1.2.2) (xt os (x.1.1))])) (μ := (fun (x : { x : (Nat) × (Value) × (Value) // (x.1) ≤ n }) => n - (x.1.1))) (x := ⟨(i, vp, vl), hinv⟩) ⟨(i + 1, vp2, vl2), by omega⟩ ?_ ?_ ?_; (show n - (i + 1) < n - i; omega); (exact (by repeat (first | exact trivial | refine ⟨rfl, ?_⟩))); (exact Z.st_td (by repeat (first | with_reducible exact Z.Takes.nil | (apply Z.Takes.cons; (repeat (first | with_reducible exact Z.Take.here | apply Z.Take.there))))) (by repeat (first | with_reducible exact Z.Drop.nil | apply Z.Drop.cons)))) | (refine Z.j_nextG (X := { x : (Nat) × (Value) × (Value) // (x.1) ≤ n }) (EE := (fun (x : { x : (Nat) × (Value) × (Value) // (x.1) ≤ n }) => [(0, .slice p n cap), (1, v), (2, .int .i64 most), (7, .pointer (some ⟨b7, 0, none⟩)), (8, .pointer (some ⟨b8, 0, none⟩)), (34, .slice p n cap), (35, .int .i64 n), (36, .int .i64 ((x.1.1) : Nat))])) (LL := (fun (x : { x : (Nat) × (Value) × (Value) // (x.1) ≤ n }) => [RowP b7 (rt os (x.1.1)), Z.cl b8 33 [(x.1.2.1), (x.1.2.2)], OC (x.1.2.1) (xt os (x.1.1)), OB (x.1.2.2) (xt os (x.1.1))])) (μ := (fun (x : { x : (Nat) × (Value) × (Value) // (x.1) ≤ n }) => n - (x.1.1))) (x := ⟨(i, vp, vl), hinv⟩) ⟨(i + 1, vp, vl2), by omega⟩ ?_ ?_ ?_; (show n - (i + 1) < n - i; omega); (exact (by repeat (first | exact trivial | refine ⟨rfl, ?_⟩))); (exact Z.st_td (by repeat (first | with_reducible exact Z.Takes.nil | (apply Z.Takes.cons; (repeat (first | with_reducible exact Z.Take.here | apply Z.Take.there))))) (by repeat (first | with_reducible exact Z.Drop.nil | apply Z.Drop.cons)))) | (refine Z.j_nextG (X := { x : (Nat) × (Value) × (Value) // (x.1) ≤ n }) (EE := (fun (x : { x : (Nat) × (Value) × (Value) // (x.1) ≤ n }) => [(0, .slice p n cap), (1, v), (2, .int .i64 most), (7, .pointer (some ⟨b7, 0, none⟩)), (8, .pointer (some ⟨b8, 0, none⟩)), (34, .slice p n cap), (35, .int .i64 n), (36, .int .i64 ((x.1.1) : Nat))])) (LL := (fun (x : { x : (Nat) × (Value) × (Value) // (x.1) ≤ n }) => [RowP b7 (rt os (x.1.1)), Z.cl b8 33 [(x.1.2.1), (x.1.2.2)], OC (x.1.2.1) (xt os (x.1.1)), OB (x.1.2.2) (xt os (x.1.1))])) (μ := (fun (x : { x : (Nat) × (Value) × (Value) // (x.1) ≤ n }) => n - (x.1.1))) (x := ⟨(i, vp, vl), hinv⟩) ⟨(i + 1, vp, vl), by omega⟩ ?_ ?_ ?_; (show n - (i + 1) < n - i; omega); (exact (by repeat (first | exact trivial | refine ⟨rfl, ?_⟩))); (exact Z.st_td (by repeat (first | with_reducible exact Z.Takes.nil | (apply Z.Takes.cons; (repeat (first | with_reducible exact Z.Take.here | apply Z.Take.there))))) (by repeat (first | with_reducible exact Z.Drop.nil | apply Z.Drop.cons))))
                      · try (with_reducible first | replace hc46 := of_decide_eq_true hc46 | replace hc46 := of_decide_eq_false hc46 | replace hc46 := Z.nd_true hc46 | replace hc46 := Z.nd_false hc46 | replace hc46 := Z.nn_true hc46 | replace hc46 := Z.nn_false hc46 | replace hc46 := Z.nb_true hc46 | replace hc46 := Z.nb_false hc46)
                        first
                        | (exfalso; first | (cases hc46; done) | omega)
                        | skip
                          try (have hk01 : ¬ (os.getD i OpR.z).kd = 0 := hc46)
                          refine Z.j_seq ?_
                          refine Z.j_region ?_
                          refine Z.s_val (Z.pv_eql rfl rfl) ?_
                          refine Z.s_val (Z.pv_assign rfl) ?_
                          refine Z.j_nil ?_
                          refine Z.j_then ?_
                          refine Z.j_cond rfl (fun hc60 => ?_) (fun hc60 => ?_)
                          · try (with_reducible first | replace hc60 := of_decide_eq_true hc60 | replace hc60 := of_decide_eq_false hc60 | replace hc60 := Z.nd_true hc60 | replace hc60 := Z.nd_false hc60 | replace hc60 := Z.nn_true hc60 | replace hc60 := Z.nn_false hc60 | replace hc60 := Z.nb_true hc60 | replace hc60 := Z.nb_false hc60)
                            first
                            | (exfalso; first | (cases hc60; done) | omega)
                            | skip
                              refine Z.j_seq ?_
                              refine Z.j_region ?_
                              refine Z.s_val (Z.pv_loadA rfl (by repeat (first | with_reducible exact Z.Take.here | apply Z.Take.there)) Try.isAgg33 Try.sizeOf33 (by rfl)) ?_
                              refine Z.s_val (Z.pv_fieldAddr (o' := 1) rfl Try.underlying38 rfl Try.sizeOf36 rfl) ?_
                              refine Z.s_val (Z.pv_loadA rfl (by repeat (first | with_reducible exact Z.Take.here | apply Z.Take.there)) Try.isAgg36 Try.sizeOf36 (by rfl)) ?_
                              refine Z.s_call rfl rfl rfl isFn12 (by repeat (first | with_reducible exact Z.Takes.nil | (apply Z.Takes.cons; (repeat (first | with_reducible exact Z.Take.here | apply Z.Take.there))))) (xdrop_spec _ vp vl _ _ hR hps _ _) ?_
                              rintro _ _ ⟨vl2, rfl, rfl⟩
                              refine Z.j_app (by repeat (first | exact Z.App.nil | apply Z.App.cons)) ?_
                              refine Z.J.own_one (T := 36) (k := 2) (v := vp) (by repeat (first | with_reducible exact Z.Take.here | apply Z.Take.there)) (fun hv1 => ?_)
                              refine Z.J.own_one (T := 4) (k := 1) (v := vl2) (by repeat (first | with_reducible exact Z.Take.here | apply Z.Take.there)) (fun hv2 => ?_)
                              refine Z.s_storeA rfl rfl Try.sizeOf33 (ones2 hv1 hv2) (by repeat (first | with_reducible exact Z.Upd.here | apply Z.Upd.there)) (by rfl) ?_
                              refine Z.j_nil ?_
                              refine Z.j_then ?_
                              refine Z.j_region ?_
                              refine Z.s_val (Z.pv_fieldAddr (o' := 1) rfl Try.underlying38 rfl Try.sizeOf36 rfl) ?_
                              refine Z.s_val (Z.pv_loadA rfl (by repeat (first | with_reducible exact Z.Take.here | apply Z.Take.there)) Try.isAgg36 Try.sizeOf36 (by rfl)) ?_
                              refine Z.s_callD rfl rfl rfl isFn13 (by repeat (first | with_reducible exact Z.Takes.nil | (apply Z.Takes.cons; (repeat (first | with_reducible exact Z.Take.here | apply Z.Take.there))))) (by repeat (first | exact Z.App.nil | apply Z.App.cons)) (drop_spec _ _ (rt os i) _ _) ?_
                              refine Z.s_val (Z.pv_move rfl) ?_
                              refine Z.s_val (Z.pv_gtr rfl rfl) ?_
                              refine Z.s_val (Z.pv_eqlb rfl rfl Try.underlying4) ?_
                              refine Z.s_val (Z.pv_assign rfl) ?_
                              refine Z.s_is 12 rfl (show _ = Value.bool true from by rw [rel_pos hR]; exact same_b _) ?_
                              refine Z.j_nil ?_
                              refine Z.j_blk ?_
                              refine Z.j_then ?_
                              refine Z.j_seq ?_
                              obtain ⟨hok2, hla2, hKB2⟩ := rt_ok hos (i + 1) (by omega)
                              have hR2 := xt_rel hos (i + 1) (by omega)
                              have hps2 : (xt os (i + 1)).ps.length ≤ 60 := by have := hR2.last; omega
                              first
                              | (refine Z.j_cast (A := RowP b7 ((rt os i).put (⟨(os.getD i OpR.z).l, (os.getD i OpR.z).k⟩ : Cell))) (B := RowP b7 (rt os (i + 1))) (by repeat (first | with_reducible exact Z.Take.here | apply Z.Take.there)) (by rw [rt_put (by first | exact .inl hk00 | exact .inr hc46)]) ?_; refine Z.j_cast (A := OC vp2 ((xt os i).put (⟨(os.getD i OpR.z).l, (os.getD i OpR.z).k⟩ : Cell))) (B := OC vp2 (xt os (i + 1))) (by repeat (first | with_reducible exact Z.Take.here | apply Z.Take.there)) (by rw [xt_put (by first | exact .inl hk00 | exact .inr hc46)]) ?_; refine Z.j_cast (A := OB vl2 ((xt os i).put (⟨(os.getD i OpR.z).l, (os.getD i OpR.z).k⟩ : Cell))) (B := OB vl2 (xt os (i + 1))) (by repeat (first | with_reducible exact Z.Take.here | apply Z.Take.there)) (by rw [xt_put (by first | exact .inl hk00 | exact .inr hc46)]) ?_)
                              | (refine Z.j_cast (A := RowP b7 ((rt os i).drop (⟨(os.getD i OpR.z).l, (os.getD i OpR.z).k⟩ : Cell))) (B := RowP b7 (rt os (i + 1))) (by repeat (first | with_reducible exact Z.Take.here | apply Z.Take.there)) (by rw [rt_drop (not_or.2 ⟨hk01, hc46⟩) hc60]) ?_; refine Z.j_cast (A := OC vp ((xt os i).drop (⟨(os.getD i OpR.z).l, (os.getD i OpR.z).k⟩ : Cell))) (B := OC vp (xt os (i + 1))) (by repeat (first | with_reducible exact Z.Take.here | apply Z.Take.there)) (by rw [xt_drop (not_or.2 ⟨hk01, hc46⟩) hc60]) ?_; refine Z.j_cast (A := OB vl2 ((xt os i).drop (⟨(os.getD i OpR.z).l, (os.getD i OpR.z).k⟩ : Cell))) (B := OB vl2 (xt os (i + 1))) (by repeat (first | with_reducible exact Z.Take.here | apply Z.Take.there)) (by rw [xt_drop (not_or.2 ⟨hk01, hc46⟩) hc60]) ?_)
                              | (refine Z.j_cast (A := RowP b7 (rt os i)) (B := RowP b7 (rt os (i + 1))) (by repeat (first | with_reducible exact Z.Take.here | apply Z.Take.there)) (by rw [rt_same (not_or.2 ⟨hk01, hc46⟩) hc60]) ?_; refine Z.j_cast (A := OC vp (xt os i)) (B := OC vp (xt os (i + 1))) (by repeat (first | with_reducible exact Z.Take.here | apply Z.Take.there)) (by rw [xt_same (not_or.2 ⟨hk01, hc46⟩) hc60]) ?_; refine Z.j_cast (A := OB vl (xt os i)) (B := OB vl (xt os (i + 1))) (by repeat (first | with_reducible exact Z.Take.here | apply Z.Take.there)) (by rw [xt_same (not_or.2 ⟨hk01, hc46⟩) hc60]) ?_)
                              refine Z.j_region ?_
                              refine Z.s_val (Z.pv_fieldAddr (o' := 1) rfl Try.underlying38 rfl Try.sizeOf36 rfl) ?_
                              refine Z.s_val (Z.pv_loadA rfl (by repeat (first | with_reducible exact Z.Take.here | apply Z.Take.there)) Try.isAgg36 Try.sizeOf36 (by rfl)) ?_
                              refine Z.s_callD rfl rfl rfl isFn14 (by repeat (first | with_reducible exact Z.Takes.nil | (apply Z.Takes.cons; (repeat (first | with_reducible exact Z.Take.here | apply Z.Take.there))))) (by repeat (first | exact Z.App.nil | apply Z.App.cons)) (version_spec _ _ (rt os (i + 1)) _ _) ?_
                              refine Z.s_val (Z.pv_move rfl) ?_
                              refine Z.s_val (Z.pv_extract rfl rfl) ?_
                              refine Z.s_val (Z.pv_extract rfl rfl) ?_
                              refine Z.s_val (Z.pv_assign rfl) ?_
                              refine Z.s_val (Z.pv_assign rfl) ?_
                              refine Z.j_nil ?_
                              refine Z.j_then ?_
                              refine Z.j_seq ?_
                              refine Z.j_region ?_
                              refine Z.s_val (Z.pv_loadA rfl (by repeat (first | with_reducible exact Z.Take.here | apply Z.Take.there)) Try.isAgg33 Try.sizeOf33 (by rfl)) ?_
                              refine Z.s_val (Z.pv_fieldAddr (o' := 1) rfl Try.underlying38 rfl Try.sizeOf36 rfl) ?_
                              refine Z.s_val (Z.pv_loadA rfl (by repeat (first | with_reducible exact Z.Take.here | apply Z.Take.there)) Try.isAgg36 Try.sizeOf36 (by rfl)) ?_
                              refine Z.s_callD rfl rfl rfl isFn9 (by repeat (first | with_reducible exact Z.Takes.nil | (apply Z.Takes.cons; (repeat (first | with_reducible exact Z.Take.here | apply Z.Take.there))))) (by repeat (first | exact Z.App.nil | apply Z.App.cons)) (xver_spec _ _ _ _ _ hR2 hps2 _ _) ?_
                              refine Z.s_val (Z.pv_assign rfl) ?_
                              refine Z.j_nil ?_
                              refine Z.j_then ?_
                              refine Z.j_seq ?_
                              refine Z.j_draw (vals := [_, _, _, _, _, _, _, _, _, _, _, _, _, _, _, _, _, _, _, _, _, _, _, _, _, _, _, _, _]) 29 (by kernel_rfl) (by kernel_rfl) rfl (by rfl) (Z.heads_cons (Z.hq_val (Z.pv_move (by rfl))) (Z.heads_cons (Z.hq_val (Z.pv_not (by rfl))) (Z.heads_cons (Z.hq_val (Z.pv_move (by rfl))) (Z.heads_cons (Z.hq_val (Z.pv_move (by rfl))) (Z.heads_cons (Z.hq_val (Z.pv_move (by rfl))) (Z.heads_cons (Z.hq_val (Z.pv_is (Z.pv_neq (by rfl) (by rfl)) (show _ = Value.bool false from nsame_i _))) (Z.heads_cons (Z.hq_val (Z.pv_pick (by rfl) (by rfl))) (Z.heads_cons (Z.hq_val (Z.pv_move (by rfl))) (Z.heads_cons (Z.hq_val (Z.pv_move (by rfl))) (Z.heads_cons (Z.hq_val (Z.pv_move (by rfl))) (Z.heads_cons (Z.hq_val (Z.pv_gtr (by rfl) (by rfl))) (Z.heads_cons (Z.hq_val (Z.pv_is (Z.pv_neqb (by rfl) (by rfl) Try.underlying4) (show _ = Value.bool false from by rw [rel_pos hR2]; exact nsame_b _))) (Z.heads_cons (Z.hq_val (Z.pv_pick (by rfl) (by rfl))) (Z.heads_cons (Z.hq_val (Z.pv_move (by rfl))) (Z.heads_cons (Z.hq_val (Z.pv_fieldAddr (o' := 1) (by rfl) Try.underlying38 (by rfl) (by exact Try.sizeOf36) (by rfl))) (Z.heads_cons (Z.hq_val (Z.pv_loadA (by rfl) (by repeat (first | with_reducible exact Z.Take.here | apply Z.Take.there)) Try.isAgg36 (by exact Try.sizeOf36) (by rfl))) (Z.heads_cons (Z.hq_callD (by rfl) (by rfl) (by rfl) isFn15 (by repeat (first | with_reducible exact Z.Takes.nil | (apply Z.Takes.cons; (repeat (first | with_reducible exact Z.Take.here | apply Z.Take.there))))) (by repeat (first | with_reducible exact Z.Takes.nil | (apply Z.Takes.cons; (repeat (first | with_reducible exact Z.Take.here | apply Z.Take.there))))) (seen_spec _ _ (rt os (i + 1)) _ _)) (Z.heads_cons (Z.hq_val (Z.pv_loadA (by rfl) (by repeat (first | with_reducible exact Z.Take.here | apply Z.Take.there)) Try.isAgg33 (by exact Try.sizeOf33) (by rfl))) (Z.heads_cons (Z.hq_val (Z.pv_fieldAddr (o' := 1) (by rfl) Try.underlying38 (by rfl) (by exact Try.sizeOf36) (by rfl))) (Z.heads_cons (Z.hq_val (Z.pv_loadA (by rfl) (by repeat (first | with_reducible exact Z.Take.here | apply Z.Take.there)) Try.isAgg36 (by exact Try.sizeOf36) (by rfl))) (Z.heads_cons (Z.hq_callD (by rfl) (by rfl) (by rfl) isFn16 (by repeat (first | with_reducible exact Z.Takes.nil | (apply Z.Takes.cons; (repeat (first | with_reducible exact Z.Take.here | apply Z.Take.there))))) (by repeat (first | with_reducible exact Z.Takes.nil | (apply Z.Takes.cons; (repeat (first | with_reducible exact Z.Take.here | apply Z.Take.there))))) (xseen_spec _ _ _ _ _ hR2 hps2 _ _)) (Z.heads_cons (Z.hq_val (Z.pv_is (Z.pv_neqb (by rfl) (by rfl) Try.underlying4) (show _ = Value.bool false from nsame_b _))) (Z.heads_cons (Z.hq_val (Z.pv_pick (by rfl) (by rfl))) (Z.heads_cons (Z.hq_val (Z.pv_move (by rfl))) (Z.heads_cons (Z.hq_callD (by rfl) (by rfl) (by rfl) isFn17 (by repeat (first | with_reducible exact Z.Takes.nil | (apply Z.Takes.cons; (repeat (first | with_reducible exact Z.Take.here | apply Z.Take.there))))) (by repeat (first | with_reducible exact Z.Takes.nil | (apply Z.Takes.cons; (repeat (first | with_reducible exact Z.Take.here | apply Z.Take.there))))) (ever_spec _ _ (rt os (i + 1)))) (Z.heads_cons (Z.hq_val (Z.pv_loadA (by rfl) (by repeat (first | with_reducible exact Z.Take.here | apply Z.Take.there)) Try.isAgg33 (by exact Try.sizeOf33) (by rfl))) (Z.heads_cons (Z.hq_callD (by rfl) (by rfl) (by rfl) isFn18 (by repeat (first | with_reducible exact Z.Takes.nil | (apply Z.Takes.cons; (repeat (first | with_reducible exact Z.Take.here | apply Z.Take.there))))) (by repeat (first | with_reducible exact Z.Takes.nil | (apply Z.Takes.cons; (repeat (first | with_reducible exact Z.Take.here | apply Z.Take.there))))) (xever_spec _ _ _ _ _ hR2 hps2)) (Z.heads_cons (Z.hq_val (Z.pv_is (Z.pv_neq (by rfl) (by rfl)) (show _ = Value.bool false from nsame_i _))) (Z.heads_cons (Z.hq_val (Z.pv_pick (by rfl) (by rfl))) Z.heads_nil))))))))))))))))))))))))))))) ?_
                              refine Z.j_nil ?_
                              refine Z.j_then ?_
                              refine Z.j_cond rfl (fun hc110 => ?_) (fun hc110 => ?_)
                              · try (with_reducible first | replace hc110 := of_decide_eq_true hc110 | replace hc110 := of_decide_eq_false hc110 | replace hc110 := Z.nd_true hc110 | replace hc110 := Z.nd_false hc110 | replace hc110 := Z.nn_true hc110 | replace hc110 := Z.nn_false hc110 | replace hc110 := Z.nb_true hc110 | replace hc110 := Z.nb_false hc110)
                                first
                                | (exfalso; first | (cases hc110; done) | omega)
                                | skip
                                  refine Z.j_seq ?_
                                  refine Z.j_region ?_
                                  refine Z.s_val (Z.pv_assign rfl) ?_
                                  refine Z.j_nil ?_
                                  refine Z.j_then ?_
                                  refine Z.j_ret ?_
                                  refine Z.j_blk_ret ?_
                                  refine Z.j_then_ret ?_
                                  refine Z.j_then_ret ?_
                                  refine Z.j_blk_ret ?_
                                  refine Z.j_then_ret ?_
                                  refine Z.j_doneM_ret (bs := []) .nil (Z.rv1 (Z.rv_tmp (t := 6) rfl)) ?_
                                  exact Z.post_of ⟨rfl, rfl⟩ (by repeat (first | with_reducible exact Z.Takes.nil | (apply Z.Takes.cons; (repeat (first | with_reducible exact Z.Take.here | apply Z.Take.there))))) (by repeat (first | with_reducible exact Z.Drop.nil | apply Z.Drop.cons))
                              · try (with_reducible first | replace hc110 := of_decide_eq_true hc110 | replace hc110 := of_decide_eq_false hc110 | replace hc110 := Z.nd_true hc110 | replace hc110 := Z.nd_false hc110 | replace hc110 := Z.nn_true hc110 | replace hc110 := Z.nn_false hc110 | replace hc110 := Z.nb_true hc110 | replace hc110 := Z.nb_false hc110)
                                first
                                | (exfalso; first | (cases hc110; done) | omega)
                                | skip
                                  refine Z.j_skip ?_
                                  refine Z.j_blk ?_
                                  refine Z.j_then ?_
                                  refine Z.j_region ?_
                                  refine Z.s_val (Z.pv_add rfl rfl (by first | exact IntWalk.i64_in _ (by omega) | rfl)) ?_
                                  refine Z.s_val (Z.pv_move rfl) ?_
                                  refine Z.j_nil ?_
                                  refine Z.j_then ?_
                                  first | (refine Z.j_nextG (X := { x : (Nat) × (Value) × (Value) // (x.1) ≤ n }) (EE := (fun (x : { x : (Nat) × (Value) × (Value) // (x.1) ≤ n }) => [(0, .slice p n cap), (1, v), (2, .int .i64 most), (7, .pointer (some ⟨b7, 0, none⟩)), (8, .pointer (some ⟨b8, 0, none⟩)), (34, .slice p n cap), (35, .int .i64 n), (36, .int .i64 ((x.1.1) : Nat))])) (LL := (fun (x : { x : (Nat) × (Value) × (Value) // (x.1) ≤ n }) => [RowP b7 (rt os (x.1.1)), Z.cl b8 33 [(x.1.2.1), (x.1.2.2)], OC (x.1.2.1) (xt os (x.1.1)), OB (x.1.2.2) (xt os (x.1.1))])) (μ := (fun (x : { x : (Nat) × (Value) × (Value) // (x.1) ≤ n }) => n - (x.1.1))) (x := ⟨(i, vp, vl), hinv⟩) ⟨(i + 1, vp2, vl2), by omega⟩ ?_ ?_ ?_; (show n - (i + 1) < n - i; omega); (exact (by repeat (first | exact trivial | refine ⟨rfl, ?_⟩))); (exact Z.st_td (by repeat (first | with_reducible exact Z.Takes.nil | (apply Z.Takes.cons; (repeat (first | with_reducible exact Z.Take.here | apply Z.Take.there))))) (by repeat (first | with_reducible exact Z.Drop.nil | apply Z.Drop.cons)))) | (refine Z.j_nextG (X := { x : (Nat) × (Value) × (Value) // (x.1) ≤ n }) (EE := (fun (x : { x : (Nat) × (Value) × (Value) // (x.1) ≤ n }) => [(0, .slice p n cap), (1, v), (2, .int .i64 most), (7, .pointer (some ⟨b7, 0, none⟩)), (8, .pointer (some ⟨b8, 0, none⟩)), (34, .slice p n cap), (35, .int .i64 n), (36, .int .i64 ((x.1.1) : Nat))])) (LL := (fun (x : { x : (Nat) × (Value) × (Value) // (x.1) ≤ n }) => [RowP b7 (rt os (x.1.1)), Z.cl b8 33 [(x.1.2.1), (x.1.2.2)], OC (x.1.2.1) (xt os (x.1.1)), OB (x.1.2.2) (xt os (x.1.1))])) (μ := (fun (x : { x : (Nat) × (Value) × (Value) // (x.1) ≤ n }) => n - (x.1.1))) (x := ⟨(i, vp, vl), hinv⟩) ⟨(i + 1, vp, vl2), by omega⟩ ?_ ?_ ?_; (show n - (i + 1) < n - i; omega); (exact (by repeat (first | exact trivial | refine ⟨rfl, ?_⟩))); (exact Z.st_td (by repeat (first | with_reducible exact Z.Takes.nil | (apply Z.Takes.cons; (repeat (first | with_reducible exact Z.Take.here | apply Z.Take.there))))) (by repeat (first | with_reducible exact Z.Drop.nil | apply Z.Drop.cons)))) | (refine Z.j_nextG (X := { x : (Nat) × (Value) × (Value) // (x.1) ≤ n }) (EE := (fun (x : { x : (Nat) × (Value) × (Value) // (x.1) ≤ n }) => [(0, .slice p n cap), (1, v), (2, .int .i64 most), (7, .pointer (some ⟨b7, 0, none⟩)), (8, .pointer (some ⟨b8, 0, none⟩)), (34, .slice p n cap), (35, .int .i64 n), (36, .int .i64 ((x.1.1) : Nat))])) (LL := (fun (x : { x : (Nat) × (Value) × (Value) // (x.1) ≤ n }) => [RowP b7 (rt os (x.1.1)), Z.cl b8 33 [(x.1.2.1), (x.1.2.2)], OC (x.1.2.1) (xt os (x.1.1)), OB (x.1.2.2) (xt os (x.1.1))])) (μ := (fun (x : { x : (Nat) × (Value) × (Value) // (x.1) ≤ n }) => n - (x.1.1))) (x := ⟨(i, vp, vl), hinv⟩) ⟨(i + 1, vp, vl), by omega⟩ ?_ ?_ ?_; (show n - (i + 1) < n - i; omega); (exact (by repeat (first | exact trivial | refine ⟨rfl, ?_⟩))); (exact Z.st_td (by repeat (first | with_reducible exact Z.Takes.nil | (apply Z.Takes.cons; (repeat (first | with_reducible exact Z.Take.here | apply Z.Take.there))))) (by repeat (first | with_reducible exact Z.Drop.nil | apply Z.Drop.cons))))
                          · try (with_reducible first | replace hc60 := of_decide_eq_true hc60 | replace hc60 := of_decide_eq_false hc60 | replace hc60 := Z.nd_true hc60 | replace hc60 := Z.nd_false hc60 | replace hc60 := Z.nn_true hc60 | replace hc60 := Z.nn_false hc60 | replace hc60 := Z.nb_true hc60 | replace hc60 := Z.nb_false hc60)
                            first
                            | (exfalso; first | (cases hc60; done) | omega)
                            | skip
                              refine Z.j_skip ?_
                              refine Z.j_blk ?_
                              refine Z.j_then ?_
                              refine Z.j_seq ?_
                              obtain ⟨hok2, hla2, hKB2⟩ := rt_ok hos (i + 1) (by omega)
                              have hR2 := xt_rel hos (i + 1) (by omega)
                              have hps2 : (xt os (i + 1)).ps.length ≤ 60 := by have := hR2.last; omega
                              first
                              | (refine Z.j_cast (A := RowP b7 ((rt os i).put (⟨(os.getD i OpR.z).l, (os.getD i OpR.z).k⟩ : Cell))) (B := RowP b7 (rt os (i + 1))) (by repeat (first | with_reducible exact Z.Take.here | apply Z.Take.there)) (by rw [rt_put (by first | exact .inl hk00 | exact .inr hc46)]) ?_; refine Z.j_cast (A := OC vp2 ((xt os i).put (⟨(os.getD i OpR.z).l, (os.getD i OpR.z).k⟩ : Cell))) (B := OC vp2 (xt os (i + 1))) (by repeat (first | with_reducible exact Z.Take.here | apply Z.Take.there)) (by rw [xt_put (by first | exact .inl hk00 | exact .inr hc46)]) ?_; refine Z.j_cast (A := OB vl2 ((xt os i).put (⟨(os.getD i OpR.z).l, (os.getD i OpR.z).k⟩ : Cell))) (B := OB vl2 (xt os (i + 1))) (by repeat (first | with_reducible exact Z.Take.here | apply Z.Take.there)) (by rw [xt_put (by first | exact .inl hk00 | exact .inr hc46)]) ?_)
                              | (refine Z.j_cast (A := RowP b7 ((rt os i).drop (⟨(os.getD i OpR.z).l, (os.getD i OpR.z).k⟩ : Cell))) (B := RowP b7 (rt os (i + 1))) (by repeat (first | with_reducible exact Z.Take.here | apply Z.Take.there)) (by rw [rt_drop (not_or.2 ⟨hk01, hc46⟩) hc60]) ?_; refine Z.j_cast (A := OC vp ((xt os i).drop (⟨(os.getD i OpR.z).l, (os.getD i OpR.z).k⟩ : Cell))) (B := OC vp (xt os (i + 1))) (by repeat (first | with_reducible exact Z.Take.here | apply Z.Take.there)) (by rw [xt_drop (not_or.2 ⟨hk01, hc46⟩) hc60]) ?_; refine Z.j_cast (A := OB vl2 ((xt os i).drop (⟨(os.getD i OpR.z).l, (os.getD i OpR.z).k⟩ : Cell))) (B := OB vl2 (xt os (i + 1))) (by repeat (first | with_reducible exact Z.Take.here | apply Z.Take.there)) (by rw [xt_drop (not_or.2 ⟨hk01, hc46⟩) hc60]) ?_)
                              | (refine Z.j_cast (A := RowP b7 (rt os i)) (B := RowP b7 (rt os (i + 1))) (by repeat (first | with_reducible exact Z.Take.here | apply Z.Take.there)) (by rw [rt_same (not_or.2 ⟨hk01, hc46⟩) hc60]) ?_; refine Z.j_cast (A := OC vp (xt os i)) (B := OC vp (xt os (i + 1))) (by repeat (first | with_reducible exact Z.Take.here | apply Z.Take.there)) (by rw [xt_same (not_or.2 ⟨hk01, hc46⟩) hc60]) ?_; refine Z.j_cast (A := OB vl (xt os i)) (B := OB vl (xt os (i + 1))) (by repeat (first | with_reducible exact Z.Take.here | apply Z.Take.there)) (by rw [xt_same (not_or.2 ⟨hk01, hc46⟩) hc60]) ?_)
                              refine Z.j_region ?_
                              refine Z.s_val (Z.pv_fieldAddr (o' := 1) rfl Try.underlying38 rfl Try.sizeOf36 rfl) ?_
                              refine Z.s_val (Z.pv_loadA rfl (by repeat (first | with_reducible exact Z.Take.here | apply Z.Take.there)) Try.isAgg36 Try.sizeOf36 (by rfl)) ?_
                              refine Z.s_callD rfl rfl rfl isFn14 (by repeat (first | with_reducible exact Z.Takes.nil | (apply Z.Takes.cons; (repeat (first | with_reducible exact Z.Take.here | apply Z.Take.there))))) (by repeat (first | exact Z.App.nil | apply Z.App.cons)) (version_spec _ _ (rt os (i + 1)) _ _) ?_
                              refine Z.s_val (Z.pv_move rfl) ?_
                              refine Z.s_val (Z.pv_extract rfl rfl) ?_
                              refine Z.s_val (Z.pv_extract rfl rfl) ?_
                              refine Z.s_val (Z.pv_assign rfl) ?_
                              refine Z.s_val (Z.pv_assign rfl) ?_
                              refine Z.j_nil ?_
                              refine Z.j_then ?_
                              refine Z.j_seq ?_
                              refine Z.j_region ?_
                              refine Z.s_val (Z.pv_loadA rfl (by repeat (first | with_reducible exact Z.Take.here | apply Z.Take.there)) Try.isAgg33 Try.sizeOf33 (by rfl)) ?_
                              refine Z.s_val (Z.pv_fieldAddr (o' := 1) rfl Try.underlying38 rfl Try.sizeOf36 rfl) ?_
                              refine Z.s_val (Z.pv_loadA rfl (by repeat (first | with_reducible exact Z.Take.here | apply Z.Take.there)) Try.isAgg36 Try.sizeOf36 (by rfl)) ?_
                              refine Z.s_callD rfl rfl rfl isFn9 (by repeat (first | with_reducible exact Z.Takes.nil | (apply Z.Takes.cons; (repeat (first | with_reducible exact Z.Take.here | apply Z.Take.there))))) (by repeat (first | exact Z.App.nil | apply Z.App.cons)) (xver_spec _ _ _ _ _ hR2 hps2 _ _) ?_
                              refine Z.s_val (Z.pv_assign rfl) ?_
                              refine Z.j_nil ?_
                              refine Z.j_then ?_
                              refine Z.j_seq ?_
                              refine Z.j_draw (vals := [_, _, _, _, _, _, _, _, _, _, _, _, _, _, _, _, _, _, _, _, _, _, _, _, _, _, _, _, _]) 29 (by kernel_rfl) (by kernel_rfl) rfl (by rfl) (Z.heads_cons (Z.hq_val (Z.pv_move (by rfl))) (Z.heads_cons (Z.hq_val (Z.pv_not (by rfl))) (Z.heads_cons (Z.hq_val (Z.pv_move (by rfl))) (Z.heads_cons (Z.hq_val (Z.pv_move (by rfl))) (Z.heads_cons (Z.hq_val (Z.pv_move (by rfl))) (Z.heads_cons (Z.hq_val (Z.pv_is (Z.pv_neq (by rfl) (by rfl)) (show _ = Value.bool false from nsame_i _))) (Z.heads_cons (Z.hq_val (Z.pv_pick (by rfl) (by rfl))) (Z.heads_cons (Z.hq_val (Z.pv_move (by rfl))) (Z.heads_cons (Z.hq_val (Z.pv_move (by rfl))) (Z.heads_cons (Z.hq_val (Z.pv_move (by rfl))) (Z.heads_cons (Z.hq_val (Z.pv_gtr (by rfl) (by rfl))) (Z.heads_cons (Z.hq_val (Z.pv_is (Z.pv_neqb (by rfl) (by rfl) Try.underlying4) (show _ = Value.bool false from by rw [rel_pos hR2]; exact nsame_b _))) (Z.heads_cons (Z.hq_val (Z.pv_pick (by rfl) (by rfl))) (Z.heads_cons (Z.hq_val (Z.pv_move (by rfl))) (Z.heads_cons (Z.hq_val (Z.pv_fieldAddr (o' := 1) (by rfl) Try.underlying38 (by rfl) (by exact Try.sizeOf36) (by rfl))) (Z.heads_cons (Z.hq_val (Z.pv_loadA (by rfl) (by repeat (first | with_reducible exact Z.Take.here | apply Z.Take.there)) Try.isAgg36 (by exact Try.sizeOf36) (by rfl))) (Z.heads_cons (Z.hq_callD (by rfl) (by rfl) (by rfl) isFn15 (by repeat (first | with_reducible exact Z.Takes.nil | (apply Z.Takes.cons; (repeat (first | with_reducible exact Z.Take.here | apply Z.Take.there))))) (by repeat (first | with_reducible exact Z.Takes.nil | (apply Z.Takes.cons; (repeat (first | with_reducible exact Z.Take.here | apply Z.Take.there))))) (seen_spec _ _ (rt os (i + 1)) _ _)) (Z.heads_cons (Z.hq_val (Z.pv_loadA (by rfl) (by repeat (first | with_reducible exact Z.Take.here | apply Z.Take.there)) Try.isAgg33 (by exact Try.sizeOf33) (by rfl))) (Z.heads_cons (Z.hq_val (Z.pv_fieldAddr (o' := 1) (by rfl) Try.underlying38 (by rfl) (by exact Try.sizeOf36) (by rfl))) (Z.heads_cons (Z.hq_val (Z.pv_loadA (by rfl) (by repeat (first | with_reducible exact Z.Take.here | apply Z.Take.there)) Try.isAgg36 (by exact Try.sizeOf36) (by rfl))) (Z.heads_cons (Z.hq_callD (by rfl) (by rfl) (by rfl) isFn16 (by repeat (first | with_reducible exact Z.Takes.nil | (apply Z.Takes.cons; (repeat (first | with_reducible exact Z.Take.here | apply Z.Take.there))))) (by repeat (first | with_reducible exact Z.Takes.nil | (apply Z.Takes.cons; (repeat (first | with_reducible exact Z.Take.here | apply Z.Take.there))))) (xseen_spec _ _ _ _ _ hR2 hps2 _ _)) (Z.heads_cons (Z.hq_val (Z.pv_is (Z.pv_neqb (by rfl) (by rfl) Try.underlying4) (show _ = Value.bool false from nsame_b _))) (Z.heads_cons (Z.hq_val (Z.pv_pick (by rfl) (by rfl))) (Z.heads_cons (Z.hq_val (Z.pv_move (by rfl))) (Z.heads_cons (Z.hq_callD (by rfl) (by rfl) (by rfl) isFn17 (by repeat (first | with_reducible exact Z.Takes.nil | (apply Z.Takes.cons; (repeat (first | with_reducible exact Z.Take.here | apply Z.Take.there))))) (by repeat (first | with_reducible exact Z.Takes.nil | (apply Z.Takes.cons; (repeat (first | with_reducible exact Z.Take.here | apply Z.Take.there))))) (ever_spec _ _ (rt os (i + 1)))) (Z.heads_cons (Z.hq_val (Z.pv_loadA (by rfl) (by repeat (first | with_reducible exact Z.Take.here | apply Z.Take.there)) Try.isAgg33 (by exact Try.sizeOf33) (by rfl))) (Z.heads_cons (Z.hq_callD (by rfl) (by rfl) (by rfl) isFn18 (by repeat (first | with_reducible exact Z.Takes.nil | (apply Z.Takes.cons; (repeat (first | with_reducible exact Z.Take.here | apply Z.Take.there))))) (by repeat (first | with_reducible exact Z.Takes.nil | (apply Z.Takes.cons; (repeat (first | with_reducible exact Z.Take.here | apply Z.Take.there))))) (xever_spec _ _ _ _ _ hR2 hps2)) (Z.heads_cons (Z.hq_val (Z.pv_is (Z.pv_neq (by rfl) (by rfl)) (show _ = Value.bool false from nsame_i _))) (Z.heads_cons (Z.hq_val (Z.pv_pick (by rfl) (by rfl))) Z.heads_nil))))))))))))))))))))))))))))) ?_
                              refine Z.j_nil ?_
                              refine Z.j_then ?_
                              refine Z.j_cond rfl (fun hc110 => ?_) (fun hc110 => ?_)
                              · try (with_reducible first | replace hc110 := of_decide_eq_true hc110 | replace hc110 := of_decide_eq_false hc110 | replace hc110 := Z.nd_true hc110 | replace hc110 := Z.nd_false hc110 | replace hc110 := Z.nn_true hc110 | replace hc110 := Z.nn_false hc110 | replace hc110 := Z.nb_true hc110 | replace hc110 := Z.nb_false hc110)
                                first
                                | (exfalso; first | (cases hc110; done) | omega)
                                | skip
                                  refine Z.j_seq ?_
                                  refine Z.j_region ?_
                                  refine Z.s_val (Z.pv_assign rfl) ?_
                                  refine Z.j_nil ?_
                                  refine Z.j_then ?_
                                  refine Z.j_ret ?_
                                  refine Z.j_blk_ret ?_
                                  refine Z.j_then_ret ?_
                                  refine Z.j_then_ret ?_
                                  refine Z.j_blk_ret ?_
                                  refine Z.j_then_ret ?_
                                  refine Z.j_doneM_ret (bs := []) .nil (Z.rv1 (Z.rv_tmp (t := 6) rfl)) ?_
                                  exact Z.post_of ⟨rfl, rfl⟩ (by repeat (first | with_reducible exact Z.Takes.nil | (apply Z.Takes.cons; (repeat (first | with_reducible exact Z.Take.here | apply Z.Take.there))))) (by repeat (first | with_reducible exact Z.Drop.nil | apply Z.Drop.cons))
                              · try (with_reducible first | replace hc110 := of_decide_eq_true hc110 | replace hc110 := of_decide_eq_false hc110 | replace hc110 := Z.nd_true hc110 | replace hc110 := Z.nd_false hc110 | replace hc110 := Z.nn_true hc110 | replace hc110 := Z.nn_false hc110 | replace hc110 := Z.nb_true hc110 | replace hc110 := Z.nb_false hc110)
                                first
                                | (exfalso; first | (cases hc110; done) | omega)
                                | skip
                                  refine Z.j_skip ?_
                                  refine Z.j_blk ?_
                                  refine Z.j_then ?_
                                  refine Z.j_region ?_
                                  refine Z.s_val (Z.pv_add rfl rfl (by first | exact IntWalk.i64_in _ (by omega) | rfl)) ?_
                                  refine Z.s_val (Z.pv_move rfl) ?_
                                  refine Z.j_nil ?_
                                  refine Z.j_then ?_
                                  first | (refine Z.j_nextG (X := { x : (Nat) × (Value) × (Value) // (x.1) ≤ n }) (EE := (fun (x : { x : (Nat) × (Value) × (Value) // (x.1) ≤ n }) => [(0, .slice p n cap), (1, v), (2, .int .i64 most), (7, .pointer (some ⟨b7, 0, none⟩)), (8, .pointer (some ⟨b8, 0, none⟩)), (34, .slice p n cap), (35, .int .i64 n), (36, .int .i64 ((x.1.1) : Nat))])) (LL := (fun (x : { x : (Nat) × (Value) × (Value) // (x.1) ≤ n }) => [RowP b7 (rt os (x.1.1)), Z.cl b8 33 [(x.1.2.1), (x.1.2.2)], OC (x.1.2.1) (xt os (x.1.1)), OB (x.1.2.2) (xt os (x.1.1))])) (μ := (fun (x : { x : (Nat) × (Value) × (Value) // (x.1) ≤ n }) => n - (x.1.1))) (x := ⟨(i, vp, vl), hinv⟩) ⟨(i + 1, vp2, vl2), by omega⟩ ?_ ?_ ?_; (show n - (i + 1) < n - i; omega); (exact (by repeat (first | exact trivial | refine ⟨rfl, ?_⟩))); (exact Z.st_td (by repeat (first | with_reducible exact Z.Takes.nil | (apply Z.Takes.cons; (repeat (first | with_reducible exact Z.Take.here | apply Z.Take.there))))) (by repeat (first | with_reducible exact Z.Drop.nil | apply Z.Drop.cons)))) | (refine Z.j_nextG (X := { x : (Nat) × (Value) × (Value) // (x.1) ≤ n }) (EE := (fun (x : { x : (Nat) × (Value) × (Value) // (x.1) ≤ n }) => [(0, .slice p n cap), (1, v), (2, .int .i64 most), (7, .pointer (some ⟨b7, 0, none⟩)), (8, .pointer (some ⟨b8, 0, none⟩)), (34, .slice p n cap), (35, .int .i64 n), (36, .int .i64 ((x.1.1) : Nat))])) (LL := (fun (x : { x : (Nat) × (Value) × (Value) // (x.1) ≤ n }) => [RowP b7 (rt os (x.1.1)), Z.cl b8 33 [(x.1.2.1), (x.1.2.2)], OC (x.1.2.1) (xt os (x.1.1)), OB (x.1.2.2) (xt os (x.1.1))])) (μ := (fun (x : { x : (Nat) × (Value) × (Value) // (x.1) ≤ n }) => n - (x.1.1))) (x := ⟨(i, vp, vl), hinv⟩) ⟨(i + 1, vp, vl2), by omega⟩ ?_ ?_ ?_; (show n - (i + 1) < n - i; omega); (exact (by repeat (first | exact trivial | refine ⟨rfl, ?_⟩))); (exact Z.st_td (by repeat (first | with_reducible exact Z.Takes.nil | (apply Z.Takes.cons; (repeat (first | with_reducible exact Z.Take.here | apply Z.Take.there))))) (by repeat (first | with_reducible exact Z.Drop.nil | apply Z.Drop.cons)))) | (refine Z.j_nextG (X := { x : (Nat) × (Value) × (Value) // (x.1) ≤ n }) (EE := (fun (x : { x : (Nat) × (Value) × (Value) // (x.1) ≤ n }) => [(0, .slice p n cap), (1, v), (2, .int .i64 most), (7, .pointer (some ⟨b7, 0, none⟩)), (8, .pointer (some ⟨b8, 0, none⟩)), (34, .slice p n cap), (35, .int .i64 n), (36, .int .i64 ((x.1.1) : Nat))])) (LL := (fun (x : { x : (Nat) × (Value) × (Value) // (x.1) ≤ n }) => [RowP b7 (rt os (x.1.1)), Z.cl b8 33 [(x.1.2.1), (x.1.2.2)], OC (x.1.2.1) (xt os (x.1.1)), OB (x.1.2.2) (xt os (x.1.1))])) (μ := (fun (x : { x : (Nat) × (Value) × (Value) // (x.1) ≤ n }) => n - (x.1.1))) (x := ⟨(i, vp, vl), hinv⟩) ⟨(i + 1, vp, vl), by omega⟩ ?_ ?_ ?_; (show n - (i + 1) < n - i; omega); (exact (by repeat (first | exact trivial | refine ⟨rfl, ?_⟩))); (exact Z.st_td (by repeat (first | with_reducible exact Z.Takes.nil | (apply Z.Takes.cons; (repeat (first | with_reducible exact Z.Take.here | apply Z.Take.there))))) (by repeat (first | with_reducible exact Z.Drop.nil | apply Z.Drop.cons))))
              · try (with_reducible first | replace hc37 := of_decide_eq_true hc37 | replace hc37 := of_decide_eq_false hc37 | replace hc37 := Z.nd_true hc37 | replace hc37 := Z.nd_false hc37 | replace hc37 := Z.nn_true hc37 | replace hc37 := Z.nn_false hc37 | replace hc37 := Z.nb_true hc37 | replace hc37 := Z.nb_false hc37)
                first
                | (exfalso; first | (cases hc37; done) | omega)
                | skip
                  have hin : i = n := by omega
                  subst hin
                  obtain ⟨hok, hla0, hKB⟩ := rt_ok hos i (by omega)
                  have hR := xt_rel hos i (by omega)
                  have h60 : (xt os i).ps.length ≤ 60 := by have := hR.last; omega
                  obtain ⟨r, hr0⟩ : ∃ r, rt os i = r := ⟨_, rfl⟩
                  obtain ⟨xq, hx0⟩ : ∃ q, xt os i = q := ⟨_, rfl⟩
                  rw [hr0] at hok hla0 hKB hR
                  rw [hx0] at hR h60
                  rw [hr0, hx0]
                  have hl0 := hok.l0
                  have hlen := hok.len
                  have hss := ss1000 (ver := r.ver) (by omega)
                  have hvl := ver_len hok hR
                  have hil0 : (inA r.ver a).length ≤ r.ver.length := by rw [← outs_end (Nat.le_refl _)]; exact outs_len _ _ _
                  have hil : (inA r.ver a).length ≤ 1000 := by omega
                  obtain ⟨hb1, hb2⟩ := and_bd most 7 (by decide) (by decide)
                  obtain ⟨m0, hm0⟩ : ∃ m0, Z.bitsOf .and .i64 most 7 = m0 := ⟨_, rfl⟩
                  rw [hm0] at hb1 hb2
                  have hmin := ss_len r.ver hb1
                  rw [hvl] at hmin
                  refine Z.j_exit ?_
                  refine Z.j_then_exit ?_
                  refine Z.j_then_exit ?_
                  refine Z.j_blk_here rfl ?_
                  refine Z.j_then ?_
                  refine Z.j_seq ?_
                  refine Z.j_region ?_
                  refine Z.s_call rfl rfl rfl isFn19 (by repeat (first | with_reducible exact Z.Takes.nil | (apply Z.Takes.cons; (repeat (first | with_reducible exact Z.Take.here | apply Z.Take.there))))) (cells_spec _ _ r 1000 hok) ?_
                  rintro _ _ ⟨vx, vy, rfl, rfl⟩
                  refine Z.j_app (by repeat (first | exact Z.App.nil | apply Z.App.cons)) ?_
                  refine Z.s_val (Z.pv_move rfl) ?_
                  refine Z.s_val (Z.pv_extract rfl rfl) ?_
                  refine Z.s_val (Z.pv_extract rfl rfl) ?_
                  refine Z.s_val (Z.pv_assign rfl) ?_
                  refine Z.s_val (Z.pv_assign rfl) ?_
                  refine Z.j_nil ?_
                  refine Z.j_then ?_
                  refine Z.j_seq ?_
                  rw [hss, pairs_fst, pairs_snd, pairsR_len]
                  refine Z.j_region ?_
                  refine Z.s_val (Z.pv_assign rfl) ?_
                  refine Z.j_nil ?_
                  refine Z.j_then ?_
                  refine Z.j_seq ?_
                  refine Z.j_seq ?_
                  refine Z.j_region ?_
                  refine Z.s_val (Z.pv_fieldAddr (o' := 0) rfl Try.underlying33 rfl Try.sizeOf30 rfl) ?_
                  refine Z.s_val (Z.pv_load1 rfl (by repeat (first | with_reducible exact Z.Take.here | apply Z.Take.there)) Try.isAgg30 (by rfl)) ?_
                  refine Z.s_val (Z.pv_lenO rfl (by repeat (first | with_reducible exact Z.Take.here | apply Z.Take.there)) Try.underlying30) ?_
                  refine Z.s_val (Z.pv_move rfl) ?_
                  refine Z.j_nil ?_
                  refine Z.j_then ?_
                  refine Z.j_block ?_
                  refine Z.j_initF (E' := [(1, v), (2, .int .i64 most), (7, .pointer (some ⟨b7, 0, none⟩)), (8, .pointer (some ⟨b8, 0, none⟩)), (16, vx), (17, vy), (18, .int .i64 ((LI xq (0)).length : Nat)), (117, vp), (118, .int .i64 xq.ps.length), (119, .int .i64 ((0) : Nat))]) (As := [RowP b7 r, Z.cl b8 33 [vp, vl], OC vp xq, OB vl xq, Z.Own 36 2 vx r.ver.length ((sortC r.ver).flatMap Cell.c), Z.Own 3 1 vy r.ver.length (i64s ((sortC r.ver).map (fV r.ver)))]) (Fr := Fr) (by repeat (first | exact trivial | refine ⟨rfl, ?_⟩)) (by repeat (first | with_reducible exact Z.Takes.nil | (apply Z.Takes.cons; (repeat (first | with_reducible exact Z.Take.here | apply Z.Take.there))))) (by repeat (first | with_reducible exact Z.Drop.nil | apply Z.Drop.cons)) ?_
                  refine Z.j_loop (X := { x : (Nat) // (x) ≤ xq.ps.length }) (fun (x : { x : (Nat) // (x) ≤ xq.ps.length }) => [(1, v), (2, .int .i64 most), (7, .pointer (some ⟨b7, 0, none⟩)), (8, .pointer (some ⟨b8, 0, none⟩)), (16, vx), (17, vy), (18, .int .i64 ((LI xq (x.1)).length : Nat)), (117, vp), (118, .int .i64 xq.ps.length), (119, .int .i64 ((x.1) : Nat))]) (fun x => (fun (x : { x : (Nat) // (x) ≤ xq.ps.length }) => [RowP b7 r, Z.cl b8 33 [vp, vl], OC vp xq, OB vl xq, Z.Own 36 2 vx r.ver.length ((sortC r.ver).flatMap Cell.c), Z.Own 3 1 vy r.ver.length (i64s ((sortC r.ver).map (fV r.ver)))]) x ++ Fr) (fun (x : { x : (Nat) // (x) ≤ xq.ps.length }) => xq.ps.length - (x.1)) ⟨(0), by omega⟩ (fun x => ?_)
                  obtain ⟨i, hinv2⟩ := x
                  have hinv2' : i ≤ xq.ps.length := hinv2
                  have hi := hinv2'
                  show Z.J _ _ _ ([(1, v), (2, .int .i64 most), (7, .pointer (some ⟨b7, 0, none⟩)), (8, .pointer (some ⟨b8, 0, none⟩)), (16, vx), (17, vy), (18, .int .i64 ((LI xq i).length : Nat)), (117, vp), (118, .int .i64 xq.ps.length), (119, .int .i64 (i : Nat))]) ([RowP b7 r, Z.cl b8 33 [vp, vl], OC vp xq, OB vl xq, Z.Own 36 2 vx r.ver.length ((sortC r.ver).flatMap Cell.c), Z.Own 3 1 vy r.ver.length (i64s ((sortC r.ver).map (fV r.ver)))] ++ Fr) _
                  refine Z.j_app (by repeat (first | exact Z.App.nil | apply Z.App.cons)) ?_
                  refine Z.j_seq ?_
                  refine Z.j_region ?_
                  refine Z.s_val (Z.pv_lss rfl rfl) ?_
                  refine Z.j_nil ?_
                  refine Z.j_then ?_
                  refine Z.j_seq ?_
                  refine Z.j_cond rfl (fun hc120 => ?_) (fun hc120 => ?_)
                  · try (with_reducible first | replace hc120 := of_decide_eq_true hc120 | replace hc120 := of_decide_eq_false hc120 | replace hc120 := Z.nd_true hc120 | replace hc120 := Z.nd_false hc120 | replace hc120 := Z.nn_true hc120 | replace hc120 := Z.nn_false hc120 | replace hc120 := Z.nb_true hc120 | replace hc120 := Z.nb_false hc120)
                    first
                    | (exfalso; first | (cases hc120; done) | omega)
                    | skip
                      refine Z.j_skip ?_
                      refine Z.j_then ?_
                      refine Z.j_seq ?_
                      refine Z.j_block ?_
                      refine Z.j_seq ?_
                      refine Z.j_unown (T := 36) (k := 2) (v := vp) (m := xq.ps.length) (c := xq.ps.flatMap Cell.c) (by repeat (first | exact Z.Take.here | apply Z.Take.there)) (fun e1 e2 e3 => by exfalso; omega) (fun nb cap sp e1 e2 e3 => ?_)
                      refine Z.j_region ?_
                      refine Z.s_val (Z.pv_move rfl) ?_
                      refine Z.s_val (Z.pv_indexAddr (o' := i * 2) (b := nb) (o := 0) (len := xq.ps.length) (cap := cap) (by show some vp = _; rw [e1]) rfl Try.underlying30 Try.sizeOf36 (by omega) (by simp)) ?_
                      refine Z.s_val (Z.pv_loadA rfl (by repeat (first | with_reducible exact Z.Take.here | apply Z.Take.there)) Try.isAgg36 Try.sizeOf36 (slc_ps (i := i) sp (by omega))) ?_
                      refine Z.s_alloc Try.zeroValue36 (fun b20 => ?_)
                      refine Z.s_val (Z.pv_assign rfl) ?_
                      refine Z.s_storeA rfl rfl Try.sizeOf36 rfl (by repeat (first | with_reducible exact Z.Upd.here | apply Z.Upd.there)) (by rfl) ?_
                      refine Z.j_nil ?_
                      refine Z.j_then ?_
                      refine Z.j_seq ?_
                      refine Z.j_seq ?_
                      refine Z.j_unown (T := 4) (k := 1) (v := vl) (m := xq.ps.length) (c := bls xq) (by repeat (first | exact Z.Take.here | apply Z.Take.there)) (fun f1 f2 f3 => by exfalso; omega) (fun nb2 cap2 sp2 f1 f2 f3 => ?_)
                      refine Z.j_region ?_
                      refine Z.s_val (Z.pv_fieldAddr (o' := 1) rfl Try.underlying33 rfl Try.sizeOf31 rfl) ?_
                      refine Z.s_val (Z.pv_load1 rfl (by repeat (first | with_reducible exact Z.Take.here | apply Z.Take.there)) Try.isAgg31 (by rfl)) ?_
                      refine Z.s_val (Z.pv_move rfl) ?_
                      refine Z.s_val (Z.pv_indexAddr (o' := i) (b := nb2) (o := 0) (len := xq.ps.length) (cap := cap2) (by show some vl = _; rw [f1]) rfl Try.underlying31 Try.sizeOf4 (by omega) (by simp)) ?_
                      refine Z.s_val (Z.pv_load1 (v := .bool (decide (xq.la i = true))) rfl (by repeat (first | with_reducible exact Z.Take.here | apply Z.Take.there)) Try.isAgg4 (get_ls hR.len sp2 (by omega))) ?_
                      refine Z.s_val (Z.pv_not rfl) ?_
                      refine Z.j_nil ?_
                      refine Z.j_then ?_
                      refine Z.j_cond rfl (fun hc129 => ?_) (fun hc129 => ?_)
                      · try (with_reducible first | replace hc129 := of_decide_eq_true hc129 | replace hc129 := of_decide_eq_false hc129 | replace hc129 := Z.nd_true hc129 | replace hc129 := Z.nd_false hc129 | replace hc129 := Z.nn_true hc129 | replace hc129 := Z.nn_false hc129 | replace hc129 := Z.nb_true hc129 | replace hc129 := Z.nb_false hc129)
                        first
                        | (exfalso; first | (cases hc129; done) | omega)
                        | skip
                          have hla : xq.la i = false := by simpa using hc129
                          refine Z.j_exit ?_
                          refine Z.j_then_exit ?_
                          refine Z.j_blk_here rfl ?_
                          refine Z.j_then ?_
                          refine Z.j_region ?_
                          refine Z.s_val (Z.pv_add rfl rfl (by first | exact IntWalk.i64_in _ (by omega) | rfl)) ?_
                          refine Z.s_val (Z.pv_move rfl) ?_
                          refine Z.j_nil ?_
                          refine Z.j_then ?_
                          refine Z.j_own (T := 36) (k := 2) (m := xq.ps.length) (cap := cap) (c := xq.ps.flatMap Cell.c) (sp := sp) (by repeat (first | with_reducible exact Z.Take.here | apply Z.Take.there)) e2 e3 ?_
                          rw [← e1]
                          refine Z.j_own (T := 4) (k := 1) (m := xq.ps.length) (cap := cap2) (c := bls xq) (sp := sp2) (by repeat (first | with_reducible exact Z.Take.here | apply Z.Take.there)) f2 f3 ?_
                          rw [← f1]
                          first
                          | (refine Z.j_own (T := 36) (k := 2) (m := r.ver.length) (cap := cap3) (c := (sortC r.ver).flatMap Cell.c) (sp := sp3) (by repeat (first | with_reducible exact Z.Take.here | apply Z.Take.there)) g2 g3 ?_; rw [← g1]; refine Z.j_own (T := 3) (k := 1) (m := r.ver.length) (cap := cap4) (c := i64s ((sortC r.ver).map (fV r.ver))) (sp := sp4) (by repeat (first | with_reducible exact Z.Take.here | apply Z.Take.there)) h2 h3 ?_; rw [← h1]; refine Z.s_is 18 rfl (show _ = Value.int .i64 ((LI xq (i + 1)).length : Nat) from by rw [LI_succ, if_pos hla]; simp) ?_)
                          | (refine Z.s_is 18 rfl (show _ = Value.int .i64 ((LI xq (i + 1)).length : Nat) from by rw [LI_succ, if_neg (by rw [hla]; simp)]; simp) ?_)
                          (refine Z.j_nextG (X := { x : (Nat) // (x) ≤ xq.ps.length }) (EE := (fun (x : { x : (Nat) // (x) ≤ xq.ps.length }) => [(1, v), (2, .int .i64 most), (7, .pointer (some ⟨b7, 0, none⟩)), (8, .pointer (some ⟨b8, 0, none⟩)), (16, vx), (17, vy), (18, .int .i64 ((LI xq (x.1)).length : Nat)), (117, vp), (118, .int .i64 xq.ps.length), (119, .int .i64 ((x.1) : Nat))])) (LL := (fun (x : { x : (Nat) // (x) ≤ xq.ps.length }) => [RowP b7 r, Z.cl b8 33 [vp, vl], OC vp xq, OB vl xq, Z.Own 36 2 vx r.ver.length ((sortC r.ver).flatMap Cell.c), Z.Own 3 1 vy r.ver.length (i64s ((sortC r.ver).map (fV r.ver)))])) (μ := (fun (x : { x : (Nat) // (x) ≤ xq.ps.length }) => xq.ps.length - (x.1))) (x := ⟨(i), hinv2⟩) ⟨(i + 1), by omega⟩ ?_ ?_ ?_; (show xq.ps.length - (i + 1) < xq.ps.length - i; omega); (exact (by repeat (first | exact trivial | refine ⟨rfl, ?_⟩))); (exact Z.st_td (by repeat (first | with_reducible exact Z.Takes.nil | (apply Z.Takes.cons; (repeat (first | with_reducible exact Z.Take.here | apply Z.Take.there))))) (by repeat (first | with_reducible exact Z.Drop.nil | apply Z.Drop.cons))))
                      · try (with_reducible first | replace hc129 := of_decide_eq_true hc129 | replace hc129 := of_decide_eq_false hc129 | replace hc129 := Z.nd_true hc129 | replace hc129 := Z.nd_false hc129 | replace hc129 := Z.nn_true hc129 | replace hc129 := Z.nn_false hc129 | replace hc129 := Z.nb_true hc129 | replace hc129 := Z.nb_false hc129)
                        first
                        | (exfalso; first | (cases hc129; done) | omega)
                        | skip
                          refine Z.j_skip ?_
                          refine Z.j_then ?_
                          refine Z.j_seq ?_
                          refine Z.j_seq ?_
                          have hla : xq.la i = true := hc129
                          have hlt := LI_lt (x := xq) (i := i) (n := xq.ps.length) (by omega) hla
                          have hsx := sAt_LI hok hR (i := i) (by omega) hla
                          have hfx : fV r.ver (sAt r.ver (LI xq i).length) = (i : Int) + 1 := by rw [hsx]; exact fV_pa hR (by omega) hla
                          have hge : ¬ ((r.ver.length : Int) ≤ ((LI xq i).length : Nat)) := by omega
                          refine Z.j_unown (T := 36) (k := 2) (v := vx) (by repeat (first | with_reducible exact Z.Take.here | apply Z.Take.there)) (fun e1 e2 e3 => by exfalso; omega) (fun nb3 cap3 sp3 g1 g2 g3 => ?_)
                          refine Z.j_unown (T := 3) (k := 1) (v := vy) (by repeat (first | with_reducible exact Z.Take.here | apply Z.Take.there)) (fun e1 e2 e3 => by exfalso; omega) (fun nb4 cap4 sp4 h1 h2 h3 => ?_)
                          refine Z.j_draw (vals := [_, _, _, _, _, _, _, _, _, _, _, _, _, _, _, _, _, _, _, _, _]) 21 (by kernel_rfl) (by kernel_rfl) rfl (by rfl) (Z.heads_cons (Z.hq_val (Z.pv_move (by rfl))) (Z.heads_cons (Z.hq_val (Z.pv_move (by rfl))) (Z.heads_cons (Z.hq_val (Z.pv_len (by show some vx = _; rw [g1]) Try.underlying30)) (Z.heads_cons (Z.hq_val (Z.pv_geq (by rfl) (by rfl))) (Z.heads_cons (Z.hq_val (Z.pv_is (Z.pv_move (by rfl)) (Z.bool_f hge))) (Z.heads_cons (Z.hq_val (Z.pv_move (by rfl))) (Z.heads_cons (Z.hq_val (Z.pv_move (by rfl))) (Z.heads_cons (Z.hq_val (Z.pv_indexAddr (o' := (LI xq i).length * 2) (b := nb3) (o := 0) (len := r.ver.length) (cap := cap3) (by show some vx = _; rw [g1]) (by rfl) Try.underlying30 (by exact Try.sizeOf36) (by omega) (by simp))) (Z.heads_cons (Z.hq_val (Z.pv_loadA (by rfl) (by repeat (first | with_reducible exact Z.Take.here | apply Z.Take.there)) Try.isAgg36 (by exact Try.sizeOf36) (slc_cell (i := (LI xq i).length) sp3 (by rw [sortC_len]; omega)))) (Z.heads_cons (Z.hq_val (Z.pv_loadA (by rfl) (by repeat (first | with_reducible exact Z.Take.here | apply Z.Take.there)) Try.isAgg36 (by exact Try.sizeOf36) (by rfl))) (Z.heads_cons (Z.hq_val (Z.pv_is (Z.pv_neA (by rfl) (by rfl) Try.eqGuardType36 Try.underlying36 Try.stoodInHeld36 (cells_eq _ _ ⟨_, _⟩) (by rfl)) (show _ = Value.bool false from congrArg (fun b => Value.bool (!b)) (decide_eq_true hsx)))) (Z.heads_cons (Z.hq_val (Z.pv_pick (by rfl) (by rfl))) (Z.heads_cons (Z.hq_val (Z.pv_move (by rfl))) (Z.heads_cons (Z.hq_val (Z.pv_move (by rfl))) (Z.heads_cons (Z.hq_val (Z.pv_move (by rfl))) (Z.heads_cons (Z.hq_val (Z.pv_indexAddr (o' := (LI xq i).length) (b := nb4) (o := 0) (len := r.ver.length) (cap := cap4) (by show some vy = _; rw [h1]) (by rfl) Try.underlying48 (by exact Try.sizeOf3) (by omega) (by simp))) (Z.heads_cons (Z.hq_val (Z.pv_load1 (by rfl) (by repeat (first | with_reducible exact Z.Take.here | apply Z.Take.there)) Try.isAgg3 (get_ver (i := (LI xq i).length) sp4 (by omega)))) (Z.heads_cons (Z.hq_val (Z.pv_move (by rfl))) (Z.heads_cons (Z.hq_val (Z.pv_add (by rfl) (by rfl) (by first | exact IntWalk.i64_in _ (by omega) | rfl))) (Z.heads_cons (Z.hq_val (Z.pv_is (Z.pv_neq (by rfl) (by rfl)) (show _ = Value.bool false from congrArg (fun b => Value.bool (!b)) (decide_eq_true hfx)))) (Z.heads_cons (Z.hq_val (Z.pv_pick (by rfl) (by rfl))) Z.heads_nil))))))))))))))))))))) ?_
                          refine Z.j_nil ?_
                          refine Z.j_then ?_
                          refine Z.j_cond rfl (fun hc150 => ?_) (fun hc150 => ?_)
                          · try (with_reducible first | replace hc150 := of_decide_eq_true hc150 | replace hc150 := of_decide_eq_false hc150 | replace hc150 := Z.nd_true hc150 | replace hc150 := Z.nd_false hc150 | replace hc150 := Z.nn_true hc150 | replace hc150 := Z.nn_false hc150 | replace hc150 := Z.nb_true hc150 | replace hc150 := Z.nb_false hc150)
                            first
                            | (exfalso; first | (cases hc150; done) | omega)
                            | skip
                              refine Z.j_seq ?_
                              refine Z.j_region ?_
                              refine Z.s_val (Z.pv_assign rfl) ?_
                              refine Z.j_nil ?_
                              refine Z.j_then ?_
                              refine Z.j_ret ?_
                              refine Z.j_then_ret ?_
                              refine Z.j_blk_ret ?_
                              refine Z.j_then_ret ?_
                              refine Z.j_then_ret ?_
                              refine Z.j_blk_ret ?_
                              refine Z.j_then_ret ?_
                              refine Z.j_doneM_ret (bs := []) .nil (Z.rv1 (Z.rv_tmp (t := 6) rfl)) ?_
                              exact Z.post_of ⟨rfl, rfl⟩ (by repeat (first | with_reducible exact Z.Takes.nil | (apply Z.Takes.cons; (repeat (first | with_reducible exact Z.Take.here | apply Z.Take.there))))) (by repeat (first | with_reducible exact Z.Drop.nil | apply Z.Drop.cons))
                          · try (with_reducible first | replace hc150 := of_decide_eq_true hc150 | replace hc150 := of_decide_eq_false hc150 | replace hc150 := Z.nd_true hc150 | replace hc150 := Z.nd_false hc150 | replace hc150 := Z.nn_true hc150 | replace hc150 := Z.nn_false hc150 | replace hc150 := Z.nb_true hc150 | replace hc150 := Z.nb_false hc150)
                            first
                            | (exfalso; first | (cases hc150; done) | omega)
                            | skip
                              refine Z.j_skip ?_
                              refine Z.j_then ?_
                              refine Z.j_region ?_
                              refine Z.s_val (Z.pv_move rfl) ?_
                              refine Z.s_val (Z.pv_add rfl rfl (by first | exact IntWalk.i64_in _ (by omega) | rfl)) ?_
                              refine Z.s_val (Z.pv_assign rfl) ?_
                              refine Z.j_nil ?_
                              refine Z.j_blk ?_
                              refine Z.j_then ?_
                              refine Z.j_region ?_
                              refine Z.s_val (Z.pv_add rfl rfl (by first | exact IntWalk.i64_in _ (by omega) | rfl)) ?_
                              refine Z.s_val (Z.pv_move rfl) ?_
                              refine Z.j_nil ?_
                              refine Z.j_then ?_
                              refine Z.j_own (T := 36) (k := 2) (m := xq.ps.length) (cap := cap) (c := xq.ps.flatMap Cell.c) (sp := sp) (by repeat (first | with_reducible exact Z.Take.here | apply Z.Take.there)) e2 e3 ?_
                              rw [← e1]
                              refine Z.j_own (T := 4) (k := 1) (m := xq.ps.length) (cap := cap2) (c := bls xq) (sp := sp2) (by repeat (first | with_reducible exact Z.Take.here | apply Z.Take.there)) f2 f3 ?_
                              rw [← f1]
                              first
                              | (refine Z.j_own (T := 36) (k := 2) (m := r.ver.length) (cap := cap3) (c := (sortC r.ver).flatMap Cell.c) (sp := sp3) (by repeat (first | with_reducible exact Z.Take.here | apply Z.Take.there)) g2 g3 ?_; rw [← g1]; refine Z.j_own (T := 3) (k := 1) (m := r.ver.length) (cap := cap4) (c := i64s ((sortC r.ver).map (fV r.ver))) (sp := sp4) (by repeat (first | with_reducible exact Z.Take.here | apply Z.Take.there)) h2 h3 ?_; rw [← h1]; refine Z.s_is 18 rfl (show _ = Value.int .i64 ((LI xq (i + 1)).length : Nat) from by rw [LI_succ, if_pos hla]; simp) ?_)
                              | (refine Z.s_is 18 rfl (show _ = Value.int .i64 ((LI xq (i + 1)).length : Nat) from by rw [LI_succ, if_neg (by rw [hla]; simp)]; simp) ?_)
                              (refine Z.j_nextG (X := { x : (Nat) // (x) ≤ xq.ps.length }) (EE := (fun (x : { x : (Nat) // (x) ≤ xq.ps.length }) => [(1, v), (2, .int .i64 most), (7, .pointer (some ⟨b7, 0, none⟩)), (8, .pointer (some ⟨b8, 0, none⟩)), (16, vx), (17, vy), (18, .int .i64 ((LI xq (x.1)).length : Nat)), (117, vp), (118, .int .i64 xq.ps.length), (119, .int .i64 ((x.1) : Nat))])) (LL := (fun (x : { x : (Nat) // (x) ≤ xq.ps.length }) => [RowP b7 r, Z.cl b8 33 [vp, vl], OC vp xq, OB vl xq, Z.Own 36 2 vx r.ver.length ((sortC r.ver).flatMap Cell.c), Z.Own 3 1 vy r.ver.length (i64s ((sortC r.ver).map (fV r.ver)))])) (μ := (fun (x : { x : (Nat) // (x) ≤ xq.ps.length }) => xq.ps.length - (x.1))) (x := ⟨(i), hinv2⟩) ⟨(i + 1), by omega⟩ ?_ ?_ ?_; (show xq.ps.length - (i + 1) < xq.ps.length - i; omega); (exact (by repeat (first | exact trivial | refine ⟨rfl, ?_⟩))); (exact Z.st_td (by repeat (first | with_reducible exact Z.Takes.nil | (apply Z.Takes.cons; (repeat (first | with_reducible exact Z.Take.here | apply Z.Take.there))))) (by repeat (first | with_reducible exact Z.Drop.nil | apply Z.Drop.cons))))
                  · try (with_reducible first | replace hc120 := of_decide_eq_true hc120 | replace hc120 := of_decide_eq_false hc120 | replace hc120 := Z.nd_true hc120 | replace hc120 := Z.nd_false hc120 | replace hc120 := Z.nn_true hc120 | replace hc120 := Z.nn_false hc120 | replace hc120 := Z.nb_true hc120 | replace hc120 := Z.nb_false hc120)
                    first
                    | (exfalso; first | (cases hc120; done) | omega)
                    | skip
                      have hin2 : i = xq.ps.length := by omega
                      subst hin2
                      refine Z.j_exit ?_
                      refine Z.j_then_exit ?_
                      refine Z.j_then_exit ?_
                      refine Z.j_blk_here rfl ?_
                      refine Z.j_then ?_
                      refine Z.j_seq ?_
                      refine Z.j_region ?_
                      refine Z.s_val (Z.pv_move rfl) ?_
                      refine Z.s_val (Z.pv_bits rfl rfl hm0) ?_
                      refine Z.s_call rfl rfl rfl isFn19 (by repeat (first | with_reducible exact Z.Takes.nil | (apply Z.Takes.cons; (repeat (first | with_reducible exact Z.Take.here | apply Z.Take.there))))) (cells_spec _ _ r m0 hok) ?_
                      rintro _ _ ⟨vx2, vy2, rfl, rfl⟩
                      refine Z.j_app (by repeat (first | exact Z.App.nil | apply Z.App.cons)) ?_
                      refine Z.s_val (Z.pv_move rfl) ?_
                      refine Z.s_val (Z.pv_extract rfl rfl) ?_
                      refine Z.s_val (Z.pv_extract rfl rfl) ?_
                      refine Z.s_val (Z.pv_assign rfl) ?_
                      refine Z.s_val (Z.pv_assign rfl) ?_
                      refine Z.j_nil ?_
                      refine Z.j_then ?_
                      refine Z.j_seq ?_
                      refine Z.j_fold (A := Z.sep []) (As := []) (by repeat (first | with_reducible exact Z.Takes.nil | (apply Z.Takes.cons; (repeat (first | with_reducible exact Z.Take.here | apply Z.Take.there))))) (fun _ H => H) ?_
                      refine Z.j_drawTm 26 [⟨none, (some 20), [5], fun ρ => RowP b7 r⟩, ⟨(some 20), none, [], fun ρ => RowP b7 r⟩, ⟨none, (some 20), [], fun ρ => Z.sep []⟩, ⟨(some 20), none, [], fun ρ => Z.sep []⟩, ⟨(some 20), none, [24], fun ρ => Z.Own 3 1 (ρ 20) (inA r.ver a).length (i64s (inA r.ver a))⟩, ⟨none, none, [21], fun ρ => Z.cl b8 33 [vp, vl]⟩, ⟨none, (some 23), [], fun ρ => OC vp xq⟩, ⟨(some 23), none, [], fun ρ => OC vp xq⟩, ⟨none, (some 23), [], fun ρ => OB vl xq⟩, ⟨(some 23), none, [], fun ρ => OB vl xq⟩, ⟨(some 23), none, [24], fun ρ => Z.Own 3 1 (ρ 23) (inA r.ver a).length (i64s (inA r.ver a))⟩, ⟨none, none, [2], fun ρ => Z.Own 36 2 vx r.ver.length ((sortC r.ver).flatMap Cell.c)⟩, ⟨none, none, [11], fun ρ => Z.Own 36 2 vx2 (ssR r.ver m0).length (((ssR r.ver m0).map (·.1)).flatMap Cell.c)⟩] [20, 23] (fun ρ => [.int .i64 ((LI xq xq.ps.length).length : Nat), vx, .int .i64 r.ver.length, .bool true, .bool true, .int .i64 r.ver.length, .int .i64 ((LI xq xq.ps.length).length : Nat), .bool true, .bool true, .bool true, vx2, .int .i64 (ssR r.ver m0).length, .int .i64 most, .int .i64 m0, .int .i64 ((LI xq xq.ps.length).length : Nat), .int .i64 (if (((LI xq xq.ps.length).length : Nat) : Int) < m0 then (((LI xq xq.ps.length).length : Nat) : Int) else m0), .bool true, .bool true, .bool true, v, ρ 20, .agg #[vp, vl], v, ρ 23, .bool true, .bool true]) (by kernel_rfl) rfl (by kernel_rfl) (by kernel_rfl) (by rfl) (fun _ => rfl) ⟨fun _ _ => rfl, fun _ _ => rfl, ⟨fun _ _ => rfl, fun _ _ => rfl, trivial⟩⟩ (fun ρ => (by repeat (first | with_reducible exact Z.Takes.nil | (apply Z.Takes.cons; (repeat (first | with_reducible exact Z.Take.here | apply Z.Take.there))) | exact Z.Takes.nil))) ?_ (fun ρ => ?_)
                      · skip
                        refine Z.tops_cons ?_ ?_
                        · refine Z.top_q (fun ρ => .int .i64 ((LI xq xq.ps.length).length : Nat)) rfl (fun _ => rfl) (fun ρ Rr => ?_)
                          show Z.HQ _ _ _ _ _ _ (Rr) _ _
                          exact (Z.hq_val (Z.pv_move rfl))
                        refine Z.tops_cons ?_ ?_
                        · refine Z.top_q (fun ρ => vx) rfl (fun _ => rfl) (fun ρ Rr => ?_)
                          show Z.HQ _ _ _ _ _ _ (Rr) _ _
                          exact (Z.hq_val (Z.pv_move rfl))
                        refine Z.tops_cons ?_ ?_
                        · refine Z.top_q (fun ρ => .int .i64 r.ver.length) rfl (fun _ => rfl) (fun ρ Rr => ?_)
                          show Z.HQ _ _ _ _ _ _ (Z.Own 36 2 vx r.ver.length ((sortC r.ver).flatMap Cell.c) :: Rr) _ _
                          exact (Z.hq_val (Z.pv_lenO rfl (by repeat (first | with_reducible exact Z.Take.here | apply Z.Take.there)) Try.underlying30))
                        refine Z.tops_cons ?_ ?_
                        · refine Z.top_q (fun ρ => .bool true) rfl (fun _ => rfl) (fun ρ Rr => ?_)
                          show Z.HQ _ _ _ _ _ _ (Rr) _ _
                          exact (Z.hq_val (Z.pv_is (Z.pv_eql rfl rfl) (congrArg Value.bool (decide_eq_true (show (((LI xq xq.ps.length).length : Nat) : Int) = (r.ver.length : Int) by omega)))))
                        refine Z.tops_cons ?_ ?_
                        · refine Z.top_q (fun ρ => .bool true) rfl (fun _ => rfl) (fun ρ Rr => ?_)
                          show Z.HQ _ _ _ _ _ _ (Rr) _ _
                          exact (Z.hq_val (Z.pv_move rfl))
                        refine Z.tops_cons ?_ ?_
                        · refine Z.top_q (fun ρ => .int .i64 r.ver.length) rfl (fun _ => rfl) (fun ρ Rr => ?_)
                          show Z.HQ _ _ _ _ _ _ (RowP b7 r :: Rr) _ _
                          exact (Z.hq_callD rfl rfl rfl isFn20 (by repeat (first | with_reducible exact Z.Takes.nil | (apply Z.Takes.cons; (repeat (first | with_reducible exact Z.Take.here | apply Z.Take.there))))) (by repeat (first | with_reducible exact Z.Takes.nil | (apply Z.Takes.cons; (repeat (first | with_reducible exact Z.Take.here | apply Z.Take.there))))) (live_spec _ _ r))
                        refine Z.tops_cons ?_ ?_
                        · refine Z.top_q (fun ρ => .int .i64 ((LI xq xq.ps.length).length : Nat)) rfl (fun _ => rfl) (fun ρ Rr => ?_)
                          show Z.HQ _ _ _ _ _ _ (Rr) _ _
                          exact (Z.hq_val (Z.pv_move rfl))
                        refine Z.tops_cons ?_ ?_
                        · refine Z.top_q (fun ρ => .bool true) rfl (fun _ => rfl) (fun ρ Rr => ?_)
                          show Z.HQ _ _ _ _ _ _ (Rr) _ _
                          exact (Z.hq_val (Z.pv_is (Z.pv_eql rfl rfl) (congrArg Value.bool (decide_eq_true (show (r.ver.length : Int) = (((LI xq xq.ps.length).length : Nat) : Int) by omega)))))
                        refine Z.tops_cons ?_ ?_
                        · refine Z.top_q (fun ρ => .bool true) rfl (fun _ => rfl) (fun ρ Rr => ?_)
                          show Z.HQ _ _ _ _ _ _ (Rr) _ _
                          exact (Z.hq_val (Z.pv_pick rfl rfl))
                        refine Z.tops_cons ?_ ?_
                        · refine Z.top_q (fun ρ => .bool true) rfl (fun _ => rfl) (fun ρ Rr => ?_)
                          show Z.HQ _ _ _ _ _ _ (Rr) _ _
                          exact (Z.hq_val (Z.pv_move rfl))
                        refine Z.tops_cons ?_ ?_
                        · refine Z.top_q (fun ρ => vx2) rfl (fun _ => rfl) (fun ρ Rr => ?_)
                          show Z.HQ _ _ _ _ _ _ (Rr) _ _
                          exact (Z.hq_val (Z.pv_move rfl))
                        refine Z.tops_cons ?_ ?_
                        · refine Z.top_q (fun ρ => .int .i64 (ssR r.ver m0).length) rfl (fun _ => rfl) (fun ρ Rr => ?_)
                          show Z.HQ _ _ _ _ _ _ (Z.Own 36 2 vx2 (ssR r.ver m0).length (((ssR r.ver m0).map (·.1)).flatMap Cell.c) :: Rr) _ _
                          exact (Z.hq_val (Z.pv_lenO rfl (by repeat (first | with_reducible exact Z.Take.here | apply Z.Take.there)) Try.underlying30))
                        refine Z.tops_cons ?_ ?_
                        · refine Z.top_q (fun ρ => .int .i64 most) rfl (fun _ => rfl) (fun ρ Rr => ?_)
                          show Z.HQ _ _ _ _ _ _ (Rr) _ _
                          exact (Z.hq_val (Z.pv_move rfl))
                        refine Z.tops_cons ?_ ?_
                        · refine Z.top_q (fun ρ => .int .i64 m0) rfl (fun _ => rfl) (fun ρ Rr => ?_)
                          show Z.HQ _ _ _ _ _ _ (Rr) _ _
                          exact (Z.hq_val (Z.pv_bits rfl rfl hm0))
                        refine Z.tops_cons ?_ ?_
                        · refine Z.top_q (fun ρ => .int .i64 ((LI xq xq.ps.length).length : Nat)) rfl (fun _ => rfl) (fun ρ Rr => ?_)
                          show Z.HQ _ _ _ _ _ _ (Rr) _ _
                          exact (Z.hq_val (Z.pv_move rfl))
                        refine Z.tops_cons ?_ ?_
                        · refine Z.top_q (fun ρ => .int .i64 (if (((LI xq xq.ps.length).length : Nat) : Int) < m0 then (((LI xq xq.ps.length).length : Nat) : Int) else m0)) rfl (fun _ => rfl) (fun ρ Rr => ?_)
                          show Z.HQ _ _ _ _ _ _ (Rr) _ _
                          exact (Z.hq_val (Z.pv_min rfl rfl))
                        refine Z.tops_cons ?_ ?_
                        · refine Z.top_q (fun ρ => .bool true) rfl (fun _ => rfl) (fun ρ Rr => ?_)
                          show Z.HQ _ _ _ _ _ _ (Rr) _ _
                          exact (Z.hq_val (Z.pv_is (Z.pv_eql rfl rfl) (congrArg Value.bool (decide_eq_true hmin))))
                        refine Z.tops_cons ?_ ?_
                        · refine Z.top_q (fun ρ => .bool true) rfl (fun _ => rfl) (fun ρ Rr => ?_)
                          show Z.HQ _ _ _ _ _ _ (Rr) _ _
                          exact (Z.hq_val (Z.pv_pick rfl rfl))
                        refine Z.tops_cons ?_ ?_
                        · refine Z.top_q (fun ρ => .bool true) rfl (fun _ => rfl) (fun ρ Rr => ?_)
                          show Z.HQ _ _ _ _ _ _ (Rr) _ _
                          exact (Z.hq_val (Z.pv_move rfl))
                        refine Z.tops_cons ?_ ?_
                        · refine Z.top_q (fun ρ => v) rfl (fun _ => rfl) (fun ρ Rr => ?_)
                          show Z.HQ _ _ _ _ _ _ (Rr) _ _
                          exact (Z.hq_val (Z.pv_move rfl))
                        refine Z.tops_cons ?_ ?_
                        · refine Z.top_c rfl (fun ρ Rr => ?_)
                          refine Z.hn_of rfl (by rfl) rfl (by rfl) ?_
                          show Z.J _ _ _ _ ([RowP b7 r, Z.sep []] ++ Rr) _
                          refine Z.j_app (by repeat (first | exact Z.App.nil | apply Z.App.cons)) ?_
                          refine Z.s_call rfl rfl rfl isFn22 (by repeat (first | with_reducible exact Z.Takes.nil | (apply Z.Takes.cons; (repeat (first | with_reducible exact Z.Take.here | apply Z.Take.there))))) (in_spec _ _ r hok v a (Z.sep []) (fewA_nb hfew) (fun w R h => hA.up h)) ?_
                          rintro v180 _ rfl
                          refine Z.j_app (by repeat (first | exact Z.App.nil | apply Z.App.cons)) ?_
                          refine Z.j_nil ?_
                          refine Z.hn_end (by rfl) (fun w hs => ⟨rfl, Z.st_td (by repeat (first | with_reducible exact Z.Takes.nil | (apply Z.Takes.cons; (repeat (first | exact Z.Take.here | apply Z.Take.there))) | exact Z.Takes.nil)) (by repeat (first | with_reducible exact Z.Drop.nil | apply Z.Drop.cons)) w hs⟩)
                        refine Z.tops_cons ?_ ?_
                        · refine Z.top_q (fun ρ => .agg #[vp, vl]) rfl (fun _ => rfl) (fun ρ Rr => ?_)
                          show Z.HQ _ _ _ _ _ _ (Z.cl b8 33 [vp, vl] :: Rr) _ _
                          exact (Z.hq_val (Z.pv_loadA rfl (by repeat (first | with_reducible exact Z.Take.here | apply Z.Take.there)) Try.isAgg33 Try.sizeOf33 (by rfl)))
                        refine Z.tops_cons ?_ ?_
                        · refine Z.top_q (fun ρ => v) rfl (fun _ => rfl) (fun ρ Rr => ?_)
                          show Z.HQ _ _ _ _ _ _ (Rr) _ _
                          exact (Z.hq_val (Z.pv_move rfl))
                        refine Z.tops_cons ?_ ?_
                        · refine Z.top_c rfl (fun ρ Rr => ?_)
                          refine Z.hn_of rfl (by rfl) rfl (by rfl) ?_
                          show Z.J _ _ _ _ ([OC vp xq, OB vl xq] ++ Rr) _
                          refine Z.j_app (by repeat (first | exact Z.App.nil | apply Z.App.cons)) ?_
                          refine Z.s_call rfl rfl rfl isFn23 (by repeat (first | with_reducible exact Z.Takes.nil | (apply Z.Takes.cons; (repeat (first | with_reducible exact Z.Take.here | apply Z.Take.there))))) (xin_spec _ vp vl r xq hR h60 hok v a hA hao) ?_
                          rintro v183 _ rfl
                          refine Z.j_app (by repeat (first | exact Z.App.nil | apply Z.App.cons)) ?_
                          refine Z.j_nil ?_
                          refine Z.hn_end (by rfl) (fun w hs => ⟨rfl, Z.st_td (by repeat (first | with_reducible exact Z.Takes.nil | (apply Z.Takes.cons; (repeat (first | exact Z.Take.here | apply Z.Take.there))) | exact Z.Takes.nil)) (by repeat (first | with_reducible exact Z.Drop.nil | apply Z.Drop.cons)) w hs⟩)
                        refine Z.tops_cons ?_ ?_
                        · refine Z.top_q (fun ρ => .bool true) rfl (fun _ => rfl) (fun ρ Rr => ?_)
                          show Z.HQ _ _ _ _ _ _ (Z.Own 3 1 (ρ 20) (inA r.ver a).length (i64s (inA r.ver a)) :: Z.Own 3 1 (ρ 23) (inA r.ver a).length (i64s (inA r.ver a)) :: Rr) _ _
                          exact (Z.hq_callD rfl rfl rfl isFn21 (by repeat (first | with_reducible exact Z.Takes.nil | (apply Z.Takes.cons; (repeat (first | with_reducible exact Z.Take.here | apply Z.Take.there))))) (by repeat (first | with_reducible exact Z.Takes.nil | (apply Z.Takes.cons; (repeat (first | with_reducible exact Z.Take.here | apply Z.Take.there))))) (same_spec _ _ _ (inA r.ver a) hil))
                        refine Z.tops_cons ?_ ?_
                        · refine Z.top_q (fun ρ => .bool true) rfl (fun _ => rfl) (fun ρ Rr => ?_)
                          show Z.HQ _ _ _ _ _ _ (Rr) _ _
                          exact (Z.hq_val (Z.pv_pick rfl rfl))
                        exact Z.tops_nil
                      · show Z.J _ _ _ _ ([RowP b7 r, Z.sep [], Z.Own 3 1 (ρ 20) (inA r.ver a).length (i64s (inA r.ver a)), Z.cl b8 33 [vp, vl], OC vp xq, OB vl xq, Z.Own 3 1 (ρ 23) (inA r.ver a).length (i64s (inA r.ver a)), Z.Own 36 2 vx r.ver.length ((sortC r.ver).flatMap Cell.c), Z.Own 36 2 vx2 (ssR r.ver m0).length (((ssR r.ver m0).map (·.1)).flatMap Cell.c)] ++ _) _
                        refine Z.j_app (by repeat (first | exact Z.App.nil | apply Z.App.cons)) ?_
                        refine Z.s_val (Z.pv_assign rfl) ?_
                        refine Z.j_nil ?_
                        refine Z.j_then ?_
                        refine Z.j_ret ?_
                        refine Z.j_doneM_ret (bs := []) .nil (Z.rv1 (Z.rv_tmp (t := 6) rfl)) ?_
                        exact Z.post_of ⟨rfl, rfl⟩ (by repeat (first | with_reducible exact Z.Takes.nil | (apply Z.Takes.cons; (repeat (first | with_reducible exact Z.Take.here | apply Z.Take.there))))) (by repeat (first | with_reducible exact Z.Drop.nil | apply Z.Drop.cons))

end Go.Proofs.Ytleofndjeekalaa
