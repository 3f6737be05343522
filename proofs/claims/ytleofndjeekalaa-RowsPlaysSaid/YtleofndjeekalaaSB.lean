/- Rows: the document's puts and drops. -/
import Derived.Test.YtleofndjeekalaaSA
namespace Go.Proofs.Ytleofndjeekalaa
open Go Go.RowKit

theorem ones2 {u v : Value} (h1 : u.oneCell' = true) (h2 : v.oneCell' = true) : Z.ones [u, v] = true := by
  cases u <;> cases v <;> simp_all [Z.ones, Value.oneCell']
theorem ones_cells : ∀ ps : List Cell, Z.ones (ps.flatMap Cell.c) = true
  | [] => rfl
  | c :: ps => by simp only [List.flatMap_cons, Cell.c, List.cons_append, List.nil_append, Z.ones]; exact ones_cells ps

set_option maxHeartbeats 4000000 in
set_option maxRecDepth 100000 in
theorem xdrop_spec (w0 : World) (vp vl : Value) (r : RSt) (xq : XSt) (hR : Rel r xq) (h60 : xq.ps.length ≤ 60) (cl ck : Int) : Z.Fn Try.prog w0 12 [.agg #[vp, vl], .agg #[.int .i64 cl, .int .u32 ck]] [OC vp xq, OB vl xq] (fun u Q => ∃ v2, u = .agg #[vp, v2] ∧ Q = [OC vp (xq.drop (⟨cl, ck⟩ : Cell)), OB v2 (xq.drop (⟨cl, ck⟩ : Cell))]) := by
  refine Z.fn_enter (n := 35) Try.func12 rfl (by rfl) (by rfl) (fun Fr => ?_)
  refine Z.j_app (by repeat (first | exact Z.App.nil | apply Z.App.cons)) ?_
  refine Z.j_seq ?_
  refine Z.j_region ?_
  refine Z.s_box rfl (fun b2 => ?_)
  refine Z.s_box rfl (fun b3 => ?_)
  refine Z.s_alloc Try.zeroValue33 (fun b4 => ?_)
  refine Z.j_nil ?_
  refine Z.j_then ?_
  refine Z.j_seq ?_
  refine Z.j_region ?_
  refine Z.s_buildSlice rfl Try.underlying31 Try.zeroValue4 Try.sizeOf4 rfl rfl rfl rfl (fun b7 => ?_)
  refine Z.s_val (Z.pv_assign rfl) ?_
  refine Z.j_nil ?_
  refine Z.j_then ?_
  refine Z.j_seq ?_
  refine Z.j_seq ?_
  refine Z.J.own_mk (T := 4) (k := 1) (m := 0) (b := b7) (c := []) (by repeat (first | with_reducible exact Z.Take.here | apply Z.Take.there)) rfl ?_
  refine Z.j_cast (A := Z.Own 4 1 (.slice (some ⟨b7, 0, none⟩) 0 0) 0 []) (B := Z.Own 4 1 (.slice (some ⟨b7, 0, none⟩) 0 0) 0 ((dropL xq (⟨cl, ck⟩ : Cell) 0).map Value.bool)) (by repeat (first | with_reducible exact Z.Take.here | apply Z.Take.there)) rfl ?_
  refine Z.j_region ?_
  refine Z.s_val (Z.pv_assign rfl) ?_
  refine Z.j_nil ?_
  refine Z.j_then ?_
  refine Z.j_block ?_
  refine Z.j_initF (E' := [(2, .pointer (some ⟨b2, 0, none⟩)), (3, .pointer (some ⟨b3, 0, none⟩)), (4, .pointer (some ⟨b4, 0, none⟩)), (5, (.slice (some ⟨b7, 0, none⟩) 0 0)), (6, .int .i64 ((0) : Nat))]) (As := [Z.cl b2 33 [vp, vl], Z.cl b3 36 [.int .i64 cl, .int .u32 ck], Z.cl b4 33 [.slice none 0 0, .slice none 0 0], OC vp xq, OB vl xq, Z.Own 4 1 (.slice (some ⟨b7, 0, none⟩) 0 0) (0) ((dropL xq (⟨cl, ck⟩ : Cell) (0)).map Value.bool)]) (Fr := Fr) (by repeat (first | exact trivial | refine ⟨rfl, ?_⟩)) (by repeat (first | with_reducible exact Z.Takes.nil | (apply Z.Takes.cons; (repeat (first | with_reducible exact Z.Take.here | apply Z.Take.there))))) (by repeat (first | with_reducible exact Z.Drop.nil | apply Z.Drop.cons)) ?_
  refine Z.j_loop (X := { x : (Nat) × (Value) // (x.1) ≤ xq.ps.length }) (fun (x : { x : (Nat) × (Value) // (x.1) ≤ xq.ps.length }) => [(2, .pointer (some ⟨b2, 0, none⟩)), (3, .pointer (some ⟨b3, 0, none⟩)), (4, .pointer (some ⟨b4, 0, none⟩)), (5, (x.1.2)), (6, .int .i64 ((x.1.1) : Nat))]) (fun x => (fun (x : { x : (Nat) × (Value) // (x.1) ≤ xq.ps.length }) => [Z.cl b2 33 [vp, vl], Z.cl b3 36 [.int .i64 cl, .int .u32 ck], Z.cl b4 33 [.slice none 0 0, .slice none 0 0], OC vp xq, OB vl xq, Z.Own 4 1 (x.1.2) (x.1.1) ((dropL xq (⟨cl, ck⟩ : Cell) (x.1.1)).map Value.bool)]) x ++ Fr) (fun (x : { x : (Nat) × (Value) // (x.1) ≤ xq.ps.length }) => xq.ps.length - (x.1.1)) ⟨(0, .slice (some ⟨b7, 0, none⟩) 0 0), by omega⟩ (fun x => ?_)
  obtain ⟨⟨i, vo⟩, hinv⟩ := x
  have hinv' : i ≤ xq.ps.length := hinv
  have hi := hinv'
  show Z.J _ _ _ ([(2, .pointer (some ⟨b2, 0, none⟩)), (3, .pointer (some ⟨b3, 0, none⟩)), (4, .pointer (some ⟨b4, 0, none⟩)), (5, vo), (6, .int .i64 (i : Nat))]) ([Z.cl b2 33 [vp, vl], Z.cl b3 36 [.int .i64 cl, .int .u32 ck], Z.cl b4 33 [.slice none 0 0, .slice none 0 0], OC vp xq, OB vl xq, Z.Own 4 1 vo i ((dropL xq (⟨cl, ck⟩ : Cell) i).map Value.bool)] ++ Fr) _
  refine Z.j_app (by repeat (first | exact Z.App.nil | apply Z.App.cons)) ?_
  refine Z.j_seq ?_
  refine Z.j_seq ?_
  refine Z.j_region ?_
  refine Z.s_val (Z.pv_move rfl) ?_
  refine Z.s_val (Z.pv_fieldAddr (o' := 0) rfl Try.underlying33 rfl Try.sizeOf30 rfl) ?_
  refine Z.s_val (Z.pv_load1 rfl (by repeat (first | with_reducible exact Z.Take.here | apply Z.Take.there)) Try.isAgg30 (by rfl)) ?_
  refine Z.s_val (Z.pv_lenO rfl (by repeat (first | with_reducible exact Z.Take.here | apply Z.Take.there)) Try.underlying30) ?_
  refine Z.s_val (Z.pv_lss rfl rfl) ?_
  refine Z.j_nil ?_
  refine Z.j_then ?_
  refine Z.j_cond rfl (fun hc12 => ?_) (fun hc12 => ?_)
  · try (with_reducible first | replace hc12 := of_decide_eq_true hc12 | replace hc12 := of_decide_eq_false hc12 | replace hc12 := Z.nd_true hc12 | replace hc12 := Z.nd_false hc12 | replace hc12 := Z.nn_true hc12 | replace hc12 := Z.nn_false hc12 | replace hc12 := Z.nb_true hc12 | replace hc12 := Z.nb_false hc12)
    first
    | (exfalso; first | (cases hc12; done) | omega)
    | skip
      refine Z.j_skip ?_
      refine Z.j_then ?_
      refine Z.j_seq ?_
      refine Z.j_block ?_
      refine Z.j_unown (T := 36) (k := 2) (v := vp) (m := xq.ps.length) (c := xq.ps.flatMap Cell.c) (by repeat (first | exact Z.Take.here | apply Z.Take.there)) (fun e1 e2 e3 => by exfalso; omega) (fun nb cap sp e1 e2 e3 => ?_)
      refine Z.j_unown (T := 4) (k := 1) (v := vl) (m := xq.ps.length) (c := bls xq) (by repeat (first | exact Z.Take.here | apply Z.Take.there)) (fun f1 f2 f3 => by exfalso; omega) (fun nb2 cap2 sp2 f1 f2 f3 => ?_)
      by_cases hd21 : xq.la i = true
      · skip
        refine Z.j_drawTm 17 [⟨none, none, [2, 8], fun ρ => Z.cl b2 33 [vp, vl]⟩, ⟨none, none, [5], fun ρ => Z.cl nb2 4 (bls xq ++ sp2)⟩, ⟨none, none, [11], fun ρ => Z.cl nb 36 (xq.ps.flatMap Cell.c ++ sp)⟩, ⟨none, none, [12], fun ρ => Z.cl b3 36 [.int .i64 cl, .int .u32 ck]⟩, ⟨none, (some 16), [], fun ρ => Z.Own 4 1 vo i ((dropL xq (⟨cl, ck⟩ : Cell) i).map Value.bool)⟩, ⟨(some 15), (some 16), [], fun ρ => Z.Own 4 1 (ρ 15) 1 [.bool (!decide (xq.pa i = (⟨cl, ck⟩ : Cell)))]⟩, ⟨(some 16), none, [], fun ρ => Z.Own 4 1 (ρ 16) (i + 1) (((dropL xq (⟨cl, ck⟩ : Cell) i).map Value.bool) ++ [.bool (!decide (xq.pa i = (⟨cl, ck⟩ : Cell)))])⟩] [15, 16] (fun ρ => [vo, .pointer (some ⟨b2, 1, none⟩), vl, .int .i64 (i : Nat), .pointer (some ⟨nb2, i, none⟩), .bool (decide (xq.la i = true)), .bool true, .pointer (some ⟨b2, 0, none⟩), vp, .int .i64 (i : Nat), .pointer (some ⟨nb, i * 2, none⟩), .agg #[.int .i64 (xq.pa i).l, .int .u32 (xq.pa i).k], .agg #[.int .i64 cl, .int .u32 ck], .bool (!decide (xq.pa i = (⟨cl, ck⟩ : Cell))), .bool (!decide (xq.pa i = (⟨cl, ck⟩ : Cell))), ρ 15, ρ 16]) (by kernel_rfl) rfl (by kernel_rfl) (by kernel_rfl) (by rfl) (fun _ => rfl) ⟨fun _ _ => rfl, fun _ _ => rfl, ⟨fun _ _ => rfl, fun _ _ => rfl, trivial⟩⟩ (fun ρ => (by repeat (first | with_reducible exact Z.Takes.nil | (apply Z.Takes.cons; (repeat (first | with_reducible exact Z.Take.here | apply Z.Take.there))) | exact Z.Takes.nil))) ?_ (fun ρ => ?_)
        · skip
          refine Z.tops_cons ?_ ?_
          · refine Z.top_q (fun ρ => vo) rfl (fun _ => rfl) (fun ρ Rr => ?_)
            show Z.HQ _ _ _ _ _ _ (Rr) _ _
            exact (Z.hq_val (Z.pv_move rfl))
          refine Z.tops_cons ?_ ?_
          · refine Z.top_q (fun ρ => .pointer (some ⟨b2, 1, none⟩)) rfl (fun _ => rfl) (fun ρ Rr => ?_)
            show Z.HQ _ _ _ _ _ _ (Rr) _ _
            exact (Z.hq_val (Z.pv_fieldAddr (o' := 1) rfl Try.underlying33 rfl Try.sizeOf31 rfl))
          refine Z.tops_cons ?_ ?_
          · refine Z.top_q (fun ρ => vl) rfl (fun _ => rfl) (fun ρ Rr => ?_)
            show Z.HQ _ _ _ _ _ _ (Z.cl b2 33 [vp, vl] :: Rr) _ _
            exact (Z.hq_val (Z.pv_load1 rfl (by repeat (first | with_reducible exact Z.Take.here | apply Z.Take.there)) Try.isAgg31 (by rfl)))
          refine Z.tops_cons ?_ ?_
          · refine Z.top_q (fun ρ => .int .i64 (i : Nat)) rfl (fun _ => rfl) (fun ρ Rr => ?_)
            show Z.HQ _ _ _ _ _ _ (Rr) _ _
            exact (Z.hq_val (Z.pv_move rfl))
          refine Z.tops_cons ?_ ?_
          · refine Z.top_q (fun ρ => .pointer (some ⟨nb2, i, none⟩)) rfl (fun _ => rfl) (fun ρ Rr => ?_)
            show Z.HQ _ _ _ _ _ _ (Rr) _ _
            exact (Z.hq_val (Z.pv_indexAddr (o' := i) (b := nb2) (o := 0) (len := xq.ps.length) (cap := cap2) (by show some vl = _; rw [f1]) rfl Try.underlying31 Try.sizeOf4 (by omega) (by simp)))
          refine Z.tops_cons ?_ ?_
          · refine Z.top_q (fun ρ => .bool (decide (xq.la i = true))) rfl (fun _ => rfl) (fun ρ Rr => ?_)
            show Z.HQ _ _ _ _ _ _ (Z.cl nb2 4 (bls xq ++ sp2) :: Rr) _ _
            exact (Z.hq_val (Z.pv_load1 (v := .bool (decide (xq.la i = true))) rfl (by repeat (first | with_reducible exact Z.Take.here | apply Z.Take.there)) Try.isAgg4 (get_ls hR.len sp2 (by omega))))
          refine Z.tops_cons ?_ ?_
          · refine Z.top_q (fun ρ => .bool true) rfl (fun _ => rfl) (fun ρ Rr => ?_)
            show Z.HQ _ _ _ _ _ _ (Rr) _ _
            exact (Z.hq_val (Z.pv_is (Z.pv_move rfl) (Z.bool_t hd21)))
          refine Z.tops_cons ?_ ?_
          · refine Z.top_q (fun ρ => .pointer (some ⟨b2, 0, none⟩)) rfl (fun _ => rfl) (fun ρ Rr => ?_)
            show Z.HQ _ _ _ _ _ _ (Rr) _ _
            exact (Z.hq_val (Z.pv_fieldAddr (o' := 0) rfl Try.underlying33 rfl Try.sizeOf30 rfl))
          refine Z.tops_cons ?_ ?_
          · refine Z.top_q (fun ρ => vp) rfl (fun _ => rfl) (fun ρ Rr => ?_)
            show Z.HQ _ _ _ _ _ _ (Z.cl b2 33 [vp, vl] :: Rr) _ _
            exact (Z.hq_val (Z.pv_load1 rfl (by repeat (first | with_reducible exact Z.Take.here | apply Z.Take.there)) Try.isAgg30 (by rfl)))
          refine Z.tops_cons ?_ ?_
          · refine Z.top_q (fun ρ => .int .i64 (i : Nat)) rfl (fun _ => rfl) (fun ρ Rr => ?_)
            show Z.HQ _ _ _ _ _ _ (Rr) _ _
            exact (Z.hq_val (Z.pv_move rfl))
          refine Z.tops_cons ?_ ?_
          · refine Z.top_q (fun ρ => .pointer (some ⟨nb, i * 2, none⟩)) rfl (fun _ => rfl) (fun ρ Rr => ?_)
            show Z.HQ _ _ _ _ _ _ (Rr) _ _
            exact (Z.hq_val (Z.pv_indexAddr (o' := i * 2) (b := nb) (o := 0) (len := xq.ps.length) (cap := cap) (by show some vp = _; rw [e1]) rfl Try.underlying30 Try.sizeOf36 (by omega) (by simp)))
          refine Z.tops_cons ?_ ?_
          · refine Z.top_q (fun ρ => .agg #[.int .i64 (xq.pa i).l, .int .u32 (xq.pa i).k]) rfl (fun _ => rfl) (fun ρ Rr => ?_)
            show Z.HQ _ _ _ _ _ _ (Z.cl nb 36 (xq.ps.flatMap Cell.c ++ sp) :: Rr) _ _
            exact (Z.hq_val (Z.pv_loadA rfl (by repeat (first | with_reducible exact Z.Take.here | apply Z.Take.there)) Try.isAgg36 Try.sizeOf36 (slc_ps (i := i) sp (by omega))))
          refine Z.tops_cons ?_ ?_
          · refine Z.top_q (fun ρ => .agg #[.int .i64 cl, .int .u32 ck]) rfl (fun _ => rfl) (fun ρ Rr => ?_)
            show Z.HQ _ _ _ _ _ _ (Z.cl b3 36 [.int .i64 cl, .int .u32 ck] :: Rr) _ _
            exact (Z.hq_val (Z.pv_loadA rfl (by repeat (first | with_reducible exact Z.Take.here | apply Z.Take.there)) Try.isAgg36 Try.sizeOf36 (by rfl)))
          refine Z.tops_cons ?_ ?_
          · refine Z.top_q (fun ρ => .bool (!decide (xq.pa i = (⟨cl, ck⟩ : Cell)))) rfl (fun _ => rfl) (fun ρ Rr => ?_)
            show Z.HQ _ _ _ _ _ _ (Rr) _ _
            exact (Z.hq_val (Z.pv_neA rfl rfl Try.eqGuardType36 Try.underlying36 Try.stoodInHeld36 (cells_eq _ _ ⟨_, _⟩) rfl))
          refine Z.tops_cons ?_ ?_
          · refine Z.top_q (fun ρ => .bool (!decide (xq.pa i = (⟨cl, ck⟩ : Cell)))) rfl (fun _ => rfl) (fun ρ Rr => ?_)
            show Z.HQ _ _ _ _ _ _ (Rr) _ _
            exact (Z.hq_val (Z.pv_pick rfl rfl))
          refine Z.tops_cons ?_ ?_
          · refine Z.top_c rfl (fun ρ Rr => ?_)
            refine Z.hn_of rfl (by rfl) rfl (by rfl) ?_
            show Z.J _ _ _ _ ([] ++ Rr) _
            refine Z.j_app (by repeat (first | exact Z.App.nil | apply Z.App.cons)) ?_
            refine Z.s_buildSlice rfl Try.underlying31 Try.zeroValue4 Try.sizeOf4 rfl rfl rfl rfl (fun b30 => ?_)
            refine Z.J.own_mk (T := 4) (k := 1) (m := 1) (b := b30) (by repeat (first | with_reducible exact Z.Take.here | apply Z.Take.there)) rfl ?_
            refine Z.j_nil ?_
            refine Z.hn_end (by rfl) (fun w hs => ⟨rfl, Z.st_td (by repeat (first | with_reducible exact Z.Takes.nil | (apply Z.Takes.cons; (repeat (first | exact Z.Take.here | apply Z.Take.there))) | exact Z.Takes.nil)) (by repeat (first | with_reducible exact Z.Drop.nil | apply Z.Drop.cons)) w hs⟩)
          refine Z.tops_cons ?_ ?_
          · refine Z.top_c rfl (fun ρ Rr => ?_)
            refine Z.hn_of rfl (by rfl) rfl (by rfl) ?_
            show Z.J _ _ _ _ ([Z.Own 4 1 vo i ((dropL xq (⟨cl, ck⟩ : Cell) i).map Value.bool), Z.Own 4 1 (ρ 15) 1 [.bool (!decide (xq.pa i = (⟨cl, ck⟩ : Cell)))]] ++ Rr) _
            refine Z.j_app (by repeat (first | exact Z.App.nil | apply Z.App.cons)) ?_
            refine Z.j_unown (T := 4) (k := 1) (v := ρ 15) (by repeat (first | with_reducible exact Z.Take.here | apply Z.Take.there)) (fun e1 e2 e3 => by cases e2) (fun nb cap sp e1 e2 e3 => ?_)
            refine Z.s_append (k := 1) (by' := 1) (cap2 := cap) rfl (by show some (ρ 15) = _; rw [e1]) (by repeat (first | with_reducible exact Z.Take.here | apply Z.Take.there)) (Z.reads_cl (by repeat (first | with_reducible exact Z.Take.here | apply Z.Take.there)) (k := 1) (slc_one _ _)) Try.underlying31 Try.typeInfo4 rfl rfl rfl rfl rfl rfl (.inl (by omega)) (by omega) (by omega) (fun v31 hv31 => ?_)
            refine Z.j_nil ?_
            refine Z.hn_end (by rfl) (fun w hs => ⟨rfl, Z.st_td (by repeat (first | with_reducible exact Z.Takes.nil | (apply Z.Takes.cons; (repeat (first | exact Z.Take.here | apply Z.Take.there))) | exact Z.Takes.nil)) (by repeat (first | with_reducible exact Z.Drop.nil | apply Z.Drop.cons)) w hs⟩)
          exact Z.tops_nil
        · show Z.J _ _ _ _ ([Z.cl b2 33 [vp, vl], Z.cl nb2 4 (bls xq ++ sp2), Z.cl nb 36 (xq.ps.flatMap Cell.c ++ sp), Z.cl b3 36 [.int .i64 cl, .int .u32 ck], Z.Own 4 1 (ρ 16) (i + 1) (((dropL xq (⟨cl, ck⟩ : Cell) i).map Value.bool) ++ [.bool (!decide (xq.pa i = (⟨cl, ck⟩ : Cell)))])] ++ _) _
          refine Z.j_app (by repeat (first | exact Z.App.nil | apply Z.App.cons)) ?_
          refine Z.s_val (Z.pv_assign rfl) ?_
          refine Z.j_nil ?_
          refine Z.j_blk ?_
          refine Z.j_then ?_
          refine Z.j_region ?_
          refine Z.s_val (Z.pv_move rfl) ?_
          refine Z.s_val (Z.pv_add rfl rfl (by first | exact IntWalk.i64_in _ (by omega) | rfl)) ?_
          refine Z.s_val (Z.pv_assign rfl) ?_
          refine Z.j_nil ?_
          refine Z.j_then ?_
          refine Z.j_own (T := 36) (k := 2) (m := xq.ps.length) (cap := cap) (c := xq.ps.flatMap Cell.c) (sp := sp) (by repeat (first | with_reducible exact Z.Take.here | apply Z.Take.there)) e2 e3 ?_
          rw [← e1]
          refine Z.j_own (T := 4) (k := 1) (m := xq.ps.length) (cap := cap2) (c := bls xq) (sp := sp2) (by repeat (first | with_reducible exact Z.Take.here | apply Z.Take.there)) f2 f3 ?_
          rw [← f1]
          first
          | (refine Z.j_cast (A := Z.Own 4 1 (ρ 16) (i + 1) (((dropL xq (⟨cl, ck⟩ : Cell) i).map Value.bool) ++ [.bool (!decide (xq.pa i = (⟨cl, ck⟩ : Cell)))])) (B := Z.Own 4 1 (ρ 16) (i + 1) ((dropL xq (⟨cl, ck⟩ : Cell) (i + 1)).map Value.bool)) (by repeat (first | with_reducible exact Z.Take.here | apply Z.Take.there)) (by rw [dropL_snoc, hd21]; simp) ?_)
          | (refine Z.j_cast (A := Z.Own 4 1 (ρ 16) (i + 1) (((dropL xq (⟨cl, ck⟩ : Cell) i).map Value.bool) ++ [.bool false])) (B := Z.Own 4 1 (ρ 16) (i + 1) ((dropL xq (⟨cl, ck⟩ : Cell) (i + 1)).map Value.bool)) (by repeat (first | with_reducible exact Z.Take.here | apply Z.Take.there)) (by rw [dropL_snoc, show xq.la i = false from by simpa using hd21]; simp) ?_)
          (refine Z.j_nextG (X := { x : (Nat) × (Value) // (x.1) ≤ xq.ps.length }) (EE := (fun (x : { x : (Nat) × (Value) // (x.1) ≤ xq.ps.length }) => [(2, .pointer (some ⟨b2, 0, none⟩)), (3, .pointer (some ⟨b3, 0, none⟩)), (4, .pointer (some ⟨b4, 0, none⟩)), (5, (x.1.2)), (6, .int .i64 ((x.1.1) : Nat))])) (LL := (fun (x : { x : (Nat) × (Value) // (x.1) ≤ xq.ps.length }) => [Z.cl b2 33 [vp, vl], Z.cl b3 36 [.int .i64 cl, .int .u32 ck], Z.cl b4 33 [.slice none 0 0, .slice none 0 0], OC vp xq, OB vl xq, Z.Own 4 1 (x.1.2) (x.1.1) ((dropL xq (⟨cl, ck⟩ : Cell) (x.1.1)).map Value.bool)])) (μ := (fun (x : { x : (Nat) × (Value) // (x.1) ≤ xq.ps.length }) => xq.ps.length - (x.1.1))) (x := ⟨(i, vo), hinv⟩) ⟨(i + 1, ρ 16), by omega⟩ ?_ ?_ ?_; (show xq.ps.length - (i + 1) < xq.ps.length - i; omega); (exact (by repeat (first | exact trivial | refine ⟨rfl, ?_⟩))); (exact Z.st_td (by repeat (first | with_reducible exact Z.Takes.nil | (apply Z.Takes.cons; (repeat (first | with_reducible exact Z.Take.here | apply Z.Take.there))))) (by repeat (first | with_reducible exact Z.Drop.nil | apply Z.Drop.cons))))
      · skip
        refine Z.j_drawTm 17 [⟨none, none, [2, 8], fun ρ => Z.cl b2 33 [vp, vl]⟩, ⟨none, none, [5], fun ρ => Z.cl nb2 4 (bls xq ++ sp2)⟩, ⟨none, none, [11], fun ρ => Z.cl nb 36 (xq.ps.flatMap Cell.c ++ sp)⟩, ⟨none, none, [12], fun ρ => Z.cl b3 36 [.int .i64 cl, .int .u32 ck]⟩, ⟨none, (some 16), [], fun ρ => Z.Own 4 1 vo i ((dropL xq (⟨cl, ck⟩ : Cell) i).map Value.bool)⟩, ⟨(some 15), (some 16), [], fun ρ => Z.Own 4 1 (ρ 15) 1 [.bool false]⟩, ⟨(some 16), none, [], fun ρ => Z.Own 4 1 (ρ 16) (i + 1) (((dropL xq (⟨cl, ck⟩ : Cell) i).map Value.bool) ++ [.bool false])⟩] [15, 16] (fun ρ => [vo, .pointer (some ⟨b2, 1, none⟩), vl, .int .i64 (i : Nat), .pointer (some ⟨nb2, i, none⟩), .bool (decide (xq.la i = true)), .bool false, undef, undef, undef, undef, undef, undef, undef, .bool false, ρ 15, ρ 16]) (by kernel_rfl) rfl (by kernel_rfl) (by kernel_rfl) (by rfl) (fun _ => rfl) ⟨fun _ _ => rfl, fun _ _ => rfl, ⟨fun _ _ => rfl, fun _ _ => rfl, trivial⟩⟩ (fun ρ => (by repeat (first | with_reducible exact Z.Takes.nil | (apply Z.Takes.cons; (repeat (first | with_reducible exact Z.Take.here | apply Z.Take.there))) | exact Z.Takes.nil))) ?_ (fun ρ => ?_)
        · skip
          refine Z.tops_cons ?_ ?_
          · refine Z.top_q (fun ρ => vo) rfl (fun _ => rfl) (fun ρ Rr => ?_)
            show Z.HQ _ _ _ _ _ _ (Rr) _ _
            exact (Z.hq_val (Z.pv_move rfl))
          refine Z.tops_cons ?_ ?_
          · refine Z.top_q (fun ρ => .pointer (some ⟨b2, 1, none⟩)) rfl (fun _ => rfl) (fun ρ Rr => ?_)
            show Z.HQ _ _ _ _ _ _ (Rr) _ _
            exact (Z.hq_val (Z.pv_fieldAddr (o' := 1) rfl Try.underlying33 rfl Try.sizeOf31 rfl))
          refine Z.tops_cons ?_ ?_
          · refine Z.top_q (fun ρ => vl) rfl (fun _ => rfl) (fun ρ Rr => ?_)
            show Z.HQ _ _ _ _ _ _ (Z.cl b2 33 [vp, vl] :: Rr) _ _
            exact (Z.hq_val (Z.pv_load1 rfl (by repeat (first | with_reducible exact Z.Take.here | apply Z.Take.there)) Try.isAgg31 (by rfl)))
          refine Z.tops_cons ?_ ?_
          · refine Z.top_q (fun ρ => .int .i64 (i : Nat)) rfl (fun _ => rfl) (fun ρ Rr => ?_)
            show Z.HQ _ _ _ _ _ _ (Rr) _ _
            exact (Z.hq_val (Z.pv_move rfl))
          refine Z.tops_cons ?_ ?_
          · refine Z.top_q (fun ρ => .pointer (some ⟨nb2, i, none⟩)) rfl (fun _ => rfl) (fun ρ Rr => ?_)
            show Z.HQ _ _ _ _ _ _ (Rr) _ _
            exact (Z.hq_val (Z.pv_indexAddr (o' := i) (b := nb2) (o := 0) (len := xq.ps.length) (cap := cap2) (by show some vl = _; rw [f1]) rfl Try.underlying31 Try.sizeOf4 (by omega) (by simp)))
          refine Z.tops_cons ?_ ?_
          · refine Z.top_q (fun ρ => .bool (decide (xq.la i = true))) rfl (fun _ => rfl) (fun ρ Rr => ?_)
            show Z.HQ _ _ _ _ _ _ (Z.cl nb2 4 (bls xq ++ sp2) :: Rr) _ _
            exact (Z.hq_val (Z.pv_load1 (v := .bool (decide (xq.la i = true))) rfl (by repeat (first | with_reducible exact Z.Take.here | apply Z.Take.there)) Try.isAgg4 (get_ls hR.len sp2 (by omega))))
          refine Z.tops_cons ?_ ?_
          · refine Z.top_q (fun ρ => .bool false) rfl (fun _ => rfl) (fun ρ Rr => ?_)
            show Z.HQ _ _ _ _ _ _ (Rr) _ _
            exact (Z.hq_val (Z.pv_is (Z.pv_move rfl) (Z.bool_f hd21)))
          refine Z.tops_cons ?_ ?_
          · refine Z.top_q (fun ρ => undef) rfl (fun _ => rfl) (fun ρ Rr => ?_)
            show Z.HQ _ _ _ _ _ _ (Rr) _ _
            exact Z.hq_skip
          refine Z.tops_cons ?_ ?_
          · refine Z.top_q (fun ρ => undef) rfl (fun _ => rfl) (fun ρ Rr => ?_)
            show Z.HQ _ _ _ _ _ _ (Z.cl b2 33 [vp, vl] :: Rr) _ _
            exact Z.hq_skip
          refine Z.tops_cons ?_ ?_
          · refine Z.top_q (fun ρ => undef) rfl (fun _ => rfl) (fun ρ Rr => ?_)
            show Z.HQ _ _ _ _ _ _ (Rr) _ _
            exact Z.hq_skip
          refine Z.tops_cons ?_ ?_
          · refine Z.top_q (fun ρ => undef) rfl (fun _ => rfl) (fun ρ Rr => ?_)
            show Z.HQ _ _ _ _ _ _ (Rr) _ _
            exact Z.hq_skip
          refine Z.tops_cons ?_ ?_
          · refine Z.top_q (fun ρ => undef) rfl (fun _ => rfl) (fun ρ Rr => ?_)
            show Z.HQ _ _ _ _ _ _ (Z.cl nb 36 (xq.ps.flatMap Cell.c ++ sp) :: Rr) _ _
            exact Z.hq_skip
          refine Z.tops_cons ?_ ?_
          · refine Z.top_q (fun ρ => undef) rfl (fun _ => rfl) (fun ρ Rr => ?_)
            show Z.HQ _ _ _ _ _ _ (Z.cl b3 36 [.int .i64 cl, .int .u32 ck] :: Rr) _ _
            exact Z.hq_skip
          refine Z.tops_cons ?_ ?_
          · refine Z.top_q (fun ρ => undef) rfl (fun _ => rfl) (fun ρ Rr => ?_)
            show Z.HQ _ _ _ _ _ _ (Rr) _ _
            exact Z.hq_skip
          refine Z.tops_cons ?_ ?_
          · refine Z.top_q (fun ρ => .bool false) rfl (fun _ => rfl) (fun ρ Rr => ?_)
            show Z.HQ _ _ _ _ _ _ (Rr) _ _
            exact (Z.hq_val (Z.pv_pick rfl rfl))
          refine Z.tops_cons ?_ ?_
          · refine Z.top_c rfl (fun ρ Rr => ?_)
            refine Z.hn_of rfl (by rfl) rfl (by rfl) ?_
            show Z.J _ _ _ _ ([] ++ Rr) _
            refine Z.j_app (by repeat (first | exact Z.App.nil | apply Z.App.cons)) ?_
            refine Z.s_buildSlice rfl Try.underlying31 Try.zeroValue4 Try.sizeOf4 rfl rfl rfl rfl (fun b30 => ?_)
            refine Z.J.own_mk (T := 4) (k := 1) (m := 1) (b := b30) (by repeat (first | with_reducible exact Z.Take.here | apply Z.Take.there)) rfl ?_
            refine Z.j_nil ?_
            refine Z.hn_end (by rfl) (fun w hs => ⟨rfl, Z.st_td (by repeat (first | with_reducible exact Z.Takes.nil | (apply Z.Takes.cons; (repeat (first | exact Z.Take.here | apply Z.Take.there))) | exact Z.Takes.nil)) (by repeat (first | with_reducible exact Z.Drop.nil | apply Z.Drop.cons)) w hs⟩)
          refine Z.tops_cons ?_ ?_
          · refine Z.top_c rfl (fun ρ Rr => ?_)
            refine Z.hn_of rfl (by rfl) rfl (by rfl) ?_
            show Z.J _ _ _ _ ([Z.Own 4 1 vo i ((dropL xq (⟨cl, ck⟩ : Cell) i).map Value.bool), Z.Own 4 1 (ρ 15) 1 [.bool false]] ++ Rr) _
            refine Z.j_app (by repeat (first | exact Z.App.nil | apply Z.App.cons)) ?_
            refine Z.j_unown (T := 4) (k := 1) (v := ρ 15) (by repeat (first | with_reducible exact Z.Take.here | apply Z.Take.there)) (fun e1 e2 e3 => by cases e2) (fun nb cap sp e1 e2 e3 => ?_)
            refine Z.s_append (k := 1) (by' := 1) (cap2 := cap) rfl (by show some (ρ 15) = _; rw [e1]) (by repeat (first | with_reducible exact Z.Take.here | apply Z.Take.there)) (Z.reads_cl (by repeat (first | with_reducible exact Z.Take.here | apply Z.Take.there)) (k := 1) (slc_one _ _)) Try.underlying31 Try.typeInfo4 rfl rfl rfl rfl rfl rfl (.inl (by omega)) (by omega) (by omega) (fun v31 hv31 => ?_)
            refine Z.j_nil ?_
            refine Z.hn_end (by rfl) (fun w hs => ⟨rfl, Z.st_td (by repeat (first | with_reducible exact Z.Takes.nil | (apply Z.Takes.cons; (repeat (first | exact Z.Take.here | apply Z.Take.there))) | exact Z.Takes.nil)) (by repeat (first | with_reducible exact Z.Drop.nil | apply Z.Drop.cons)) w hs⟩)
          exact Z.tops_nil
        · show Z.J _ _ _ _ ([Z.cl b2 33 [vp, vl], Z.cl nb2 4 (bls xq ++ sp2), Z.cl nb 36 (xq.ps.flatMap Cell.c ++ sp), Z.cl b3 36 [.int .i64 cl, .int .u32 ck], Z.Own 4 1 (ρ 16) (i + 1) (((dropL xq (⟨cl, ck⟩ : Cell) i).map Value.bool) ++ [.bool false])] ++ _) _
          refine Z.j_app (by repeat (first | exact Z.App.nil | apply Z.App.cons)) ?_
          refine Z.s_val (Z.pv_assign rfl) ?_
          refine Z.j_nil ?_
          refine Z.j_blk ?_
          refine Z.j_then ?_
          refine Z.j_region ?_
          refine Z.s_val (Z.pv_move rfl) ?_
          refine Z.s_val (Z.pv_add rfl rfl (by first | exact IntWalk.i64_in _ (by omega) | rfl)) ?_
          refine Z.s_val (Z.pv_assign rfl) ?_
          refine Z.j_nil ?_
          refine Z.j_then ?_
          refine Z.j_own (T := 36) (k := 2) (m := xq.ps.length) (cap := cap) (c := xq.ps.flatMap Cell.c) (sp := sp) (by repeat (first | with_reducible exact Z.Take.here | apply Z.Take.there)) e2 e3 ?_
          rw [← e1]
          refine Z.j_own (T := 4) (k := 1) (m := xq.ps.length) (cap := cap2) (c := bls xq) (sp := sp2) (by repeat (first | with_reducible exact Z.Take.here | apply Z.Take.there)) f2 f3 ?_
          rw [← f1]
          first
          | (refine Z.j_cast (A := Z.Own 4 1 (ρ 16) (i + 1) (((dropL xq (⟨cl, ck⟩ : Cell) i).map Value.bool) ++ [.bool (!decide (xq.pa i = (⟨cl, ck⟩ : Cell)))])) (B := Z.Own 4 1 (ρ 16) (i + 1) ((dropL xq (⟨cl, ck⟩ : Cell) (i + 1)).map Value.bool)) (by repeat (first | with_reducible exact Z.Take.here | apply Z.Take.there)) (by rw [dropL_snoc, hd21]; simp) ?_)
          | (refine Z.j_cast (A := Z.Own 4 1 (ρ 16) (i + 1) (((dropL xq (⟨cl, ck⟩ : Cell) i).map Value.bool) ++ [.bool false])) (B := Z.Own 4 1 (ρ 16) (i + 1) ((dropL xq (⟨cl, ck⟩ : Cell) (i + 1)).map Value.bool)) (by repeat (first | with_reducible exact Z.Take.here | apply Z.Take.there)) (by rw [dropL_snoc, show xq.la i = false from by simpa using hd21]; simp) ?_)
          (refine Z.j_nextG (X := { x : (Nat) × (Value) // (x.1) ≤ xq.ps.length }) (EE := (fun (x : { x : (Nat) × (Value) // (x.1) ≤ xq.ps.length }) => [(2, .pointer (some ⟨b2, 0, none⟩)), (3, .pointer (some ⟨b3, 0, none⟩)), (4, .pointer (some ⟨b4, 0, none⟩)), (5, (x.1.2)), (6, .int .i64 ((x.1.1) : Nat))])) (LL := (fun (x : { x : (Nat) × (Value) // (x.1) ≤ xq.ps.length }) => [Z.cl b2 33 [vp, vl], Z.cl b3 36 [.int .i64 cl, .int .u32 ck], Z.cl b4 33 [.slice none 0 0, .slice none 0 0], OC vp xq, OB vl xq, Z.Own 4 1 (x.1.2) (x.1.1) ((dropL xq (⟨cl, ck⟩ : Cell) (x.1.1)).map Value.bool)])) (μ := (fun (x : { x : (Nat) × (Value) // (x.1) ≤ xq.ps.length }) => xq.ps.length - (x.1.1))) (x := ⟨(i, vo), hinv⟩) ⟨(i + 1, ρ 16), by omega⟩ ?_ ?_ ?_; (show xq.ps.length - (i + 1) < xq.ps.length - i; omega); (exact (by repeat (first | exact trivial | refine ⟨rfl, ?_⟩))); (exact Z.st_td (by repeat (first | with_reducible exact Z.Takes.nil | (apply Z.Takes.cons; (repeat (first | with_reducible exact Z.Take.here | apply Z.Take.there))))) (by repeat (first | with_reducible exact Z.Drop.nil | apply Z.Drop.cons))))
  · try (with_reducible first | replace hc12 := of_decide_eq_true hc12 | replace hc12 := of_decide_eq_false hc12 | replace hc12 := Z.nd_true hc12 | replace hc12 := Z.nd_false hc12 | replace hc12 := Z.nn_true hc12 | replace hc12 := Z.nn_false hc12 | replace hc12 := Z.nb_true hc12 | replace hc12 := Z.nb_false hc12)
    first
    | (exfalso; first | (cases hc12; done) | omega)
    | skip
      have hin : i = xq.ps.length := by omega
      subst hin
      refine Z.j_exit ?_
      refine Z.j_then_exit ?_
      refine Z.j_then_exit ?_
      refine Z.j_blk_here rfl ?_
      refine Z.j_then ?_
      refine Z.j_seq ?_
      refine Z.j_region ?_
      refine Z.s_val (Z.pv_move rfl) ?_
      refine Z.s_val (Z.pv_fieldAddr (o' := 1) rfl Try.underlying33 rfl Try.sizeOf31 rfl) ?_
      refine Z.s_storeO (T2 := 4) (k := 1) (v := vo) rfl rfl (by repeat (first | with_reducible exact Z.Take.here | apply Z.Take.there)) Try.sizeOf31 (by repeat (first | with_reducible exact Z.Upd.here | apply Z.Upd.there)) (by rfl) ?_
      refine Z.j_nil ?_
      refine Z.j_then ?_
      refine Z.j_seq ?_
      refine Z.J.own_one (T := 36) (k := 2) (v := vp) (by repeat (first | with_reducible exact Z.Take.here | apply Z.Take.there)) (fun hv1 => ?_)
      refine Z.J.own_one (T := 4) (k := 1) (v := vo) (by repeat (first | with_reducible exact Z.Take.here | apply Z.Take.there)) (fun hv2 => ?_)
      refine Z.j_region ?_
      refine Z.s_val (Z.pv_loadA rfl (by repeat (first | with_reducible exact Z.Take.here | apply Z.Take.there)) Try.isAgg33 Try.sizeOf33 (by rfl)) ?_
      refine Z.s_storeA rfl rfl Try.sizeOf33 (ones2 hv1 hv2) (by repeat (first | with_reducible exact Z.Upd.here | apply Z.Upd.there)) (by rfl) ?_
      refine Z.j_nil ?_
      refine Z.j_then ?_
      refine Z.j_ret ?_
      refine Z.j_done_ret (Z.rv1 (Z.rv_cellA (x := 4) (T := 33) rfl (by repeat (first | with_reducible exact Z.Take.here | apply Z.Take.there)) Try.isAgg33 Try.sizeOf33 (by rfl))) ?_
      exact Z.post_of (Qs := [OC vp xq, Z.Own 4 1 vo xq.ps.length ((dropL xq (⟨cl, ck⟩ : Cell) xq.ps.length).map Value.bool)]) ⟨vo, rfl, rfl⟩ (by repeat (first | with_reducible exact Z.Takes.nil | (apply Z.Takes.cons; (repeat (first | with_reducible exact Z.Take.here | apply Z.Take.there))))) (by repeat (first | with_reducible exact Z.Drop.nil | apply Z.Drop.cons))

set_option maxHeartbeats 4000000 in
set_option maxRecDepth 100000 in
theorem xput_spec (w0 : World) (vp vl : Value) (r : RSt) (xq : XSt) (hR : Rel r xq) (h60 : xq.ps.length ≤ 60) (cl ck : Int) : Z.Fn Try.prog w0 10 [.agg #[vp, vl], .agg #[.int .i64 cl, .int .u32 ck]] [OC vp xq, OB vl xq] (fun u Q => ∃ v1 v2, u = .agg #[v1, v2] ∧ Q = [OC v1 (xq.put (⟨cl, ck⟩ : Cell)), OB v2 (xq.put (⟨cl, ck⟩ : Cell))]) := by
  refine Z.fn_enter (n := 22) Try.func10 rfl (by rfl) (by rfl) (fun Fr => ?_)
  refine Z.j_app (by repeat (first | exact Z.App.nil | apply Z.App.cons)) ?_
  refine Z.j_seq ?_
  refine Z.j_region ?_
  refine Z.s_box rfl (fun b2 => ?_)
  refine Z.s_box rfl (fun b3 => ?_)
  refine Z.s_alloc Try.zeroValue33 (fun b4 => ?_)
  refine Z.j_nil ?_
  refine Z.j_then ?_
  refine Z.j_seq ?_
  refine Z.j_region ?_
  refine Z.s_val (Z.pv_loadA rfl (by repeat (first | with_reducible exact Z.Take.here | apply Z.Take.there)) Try.isAgg33 Try.sizeOf33 (by rfl)) ?_
  refine Z.s_val (Z.pv_loadA rfl (by repeat (first | with_reducible exact Z.Take.here | apply Z.Take.there)) Try.isAgg36 Try.sizeOf36 (by rfl)) ?_
  refine Z.s_call rfl rfl rfl isFn12 (by repeat (first | with_reducible exact Z.Takes.nil | (apply Z.Takes.cons; (repeat (first | with_reducible exact Z.Take.here | apply Z.Take.there))))) (xdrop_spec _ vp vl r xq hR h60 cl ck) ?_
  rintro _ _ ⟨v2, rfl, rfl⟩
  refine Z.j_app (by repeat (first | exact Z.App.nil | apply Z.App.cons)) ?_
  refine Z.J.own_one (T := 36) (k := 2) (v := vp) (by repeat (first | with_reducible exact Z.Take.here | apply Z.Take.there)) (fun hv1 => ?_)
  refine Z.J.own_one (T := 4) (k := 1) (v := v2) (by repeat (first | with_reducible exact Z.Take.here | apply Z.Take.there)) (fun hv2 => ?_)
  refine Z.s_storeA rfl rfl Try.sizeOf33 (ones2 hv1 hv2) (by repeat (first | with_reducible exact Z.Upd.here | apply Z.Upd.there)) (by rfl) ?_
  refine Z.j_cast (A := OC vp (xq.drop (⟨cl, ck⟩ : Cell))) (B := Z.Own 36 2 vp xq.ps.length (xq.ps.flatMap Cell.c)) (by repeat (first | with_reducible exact Z.Take.here | apply Z.Take.there)) rfl ?_
  refine Z.j_cast (A := OB v2 (xq.drop (⟨cl, ck⟩ : Cell))) (B := Z.Own 4 1 v2 xq.ps.length ((dropL xq (⟨cl, ck⟩ : Cell) xq.ps.length).map Value.bool)) (by repeat (first | with_reducible exact Z.Take.here | apply Z.Take.there)) rfl ?_
  refine Z.j_nil ?_
  refine Z.j_then ?_
  refine Z.j_seq ?_
  refine Z.j_drawTm 7 [⟨none, none, [2], fun ρ => Z.cl b2 33 [vp, v2]⟩, ⟨none, none, [4], fun ρ => Z.cl b3 36 [.int .i64 cl, .int .u32 ck]⟩, ⟨(some 0), (some 3), [], fun ρ => Z.Own 36 2 (ρ 0) 0 []⟩, ⟨none, (some 3), [], fun ρ => Z.Own 36 2 vp xq.ps.length (xq.ps.flatMap Cell.c)⟩, ⟨(some 3), none, [], fun ρ => Z.Own 36 2 vp xq.ps.length (xq.ps.flatMap Cell.c)⟩, ⟨(some 3), (some 6), [], fun ρ => Z.Own 36 2 (ρ 3) xq.ps.length (xq.ps.flatMap Cell.c)⟩, ⟨(some 5), (some 6), [], fun ρ => Z.Own 36 2 (ρ 5) 1 [.int .i64 cl, .int .u32 ck]⟩, ⟨(some 6), none, [], fun ρ => Z.Own 36 2 (ρ 6) (xq.ps.length + 1) ((xq.ps.flatMap Cell.c) ++ [.int .i64 cl, .int .u32 ck])⟩] [0, 3, 5, 6] (fun ρ => [ρ 0, .pointer (some ⟨b2, 0, none⟩), vp, ρ 3, .agg #[.int .i64 cl, .int .u32 ck], ρ 5, ρ 6]) (by kernel_rfl) rfl (by kernel_rfl) (by kernel_rfl) (by rfl) (fun _ => rfl) ⟨fun _ _ => rfl, fun _ _ => rfl, ⟨fun _ _ => rfl, fun _ _ => rfl, ⟨fun _ _ => rfl, fun _ _ => rfl, ⟨fun _ _ => rfl, fun _ _ => rfl, trivial⟩⟩⟩⟩ (fun ρ => (by repeat (first | with_reducible exact Z.Takes.nil | (apply Z.Takes.cons; (repeat (first | with_reducible exact Z.Take.here | apply Z.Take.there))) | exact Z.Takes.nil))) ?_ (fun ρ => ?_)
  · skip
    refine Z.tops_cons ?_ ?_
    · refine Z.top_c rfl (fun ρ Rr => ?_)
      refine Z.hn_of rfl (by rfl) rfl (by rfl) ?_
      show Z.J _ _ _ _ ([] ++ Rr) _
      refine Z.j_app (by repeat (first | exact Z.App.nil | apply Z.App.cons)) ?_
      refine Z.s_buildSlice rfl Try.underlying30 Try.zeroValue36 Try.sizeOf36 rfl rfl rfl rfl (fun b8 => ?_)
      refine Z.J.own_mk (T := 36) (k := 2) (m := 0) (b := b8) (c := []) (by repeat (first | with_reducible exact Z.Take.here | apply Z.Take.there)) rfl ?_
      refine Z.j_nil ?_
      refine Z.hn_end (by rfl) (fun w hs => ⟨rfl, Z.st_td (by repeat (first | with_reducible exact Z.Takes.nil | (apply Z.Takes.cons; (repeat (first | exact Z.Take.here | apply Z.Take.there))) | exact Z.Takes.nil)) (by repeat (first | with_reducible exact Z.Drop.nil | apply Z.Drop.cons)) w hs⟩)
    refine Z.tops_cons ?_ ?_
    · refine Z.top_q (fun ρ => .pointer (some ⟨b2, 0, none⟩)) rfl (fun _ => rfl) (fun ρ Rr => ?_)
      show Z.HQ _ _ _ _ _ _ (Rr) _ _
      exact (Z.hq_val (Z.pv_fieldAddr (o' := 0) rfl Try.underlying33 rfl Try.sizeOf30 rfl))
    refine Z.tops_cons ?_ ?_
    · refine Z.top_q (fun ρ => vp) rfl (fun _ => rfl) (fun ρ Rr => ?_)
      show Z.HQ _ _ _ _ _ _ (Z.cl b2 33 [vp, v2] :: Rr) _ _
      exact (Z.hq_val (Z.pv_load1 rfl (by repeat (first | with_reducible exact Z.Take.here | apply Z.Take.there)) Try.isAgg30 (by rfl)))
    refine Z.tops_cons ?_ ?_
    · refine Z.top_c rfl (fun ρ Rr => ?_)
      refine Z.hn_of rfl (by rfl) rfl (by rfl) ?_
      show Z.J _ _ _ _ ([Z.Own 36 2 (ρ 0) 0 [], Z.Own 36 2 vp xq.ps.length (xq.ps.flatMap Cell.c)] ++ Rr) _
      refine Z.j_app (by repeat (first | exact Z.App.nil | apply Z.App.cons)) ?_
      refine Z.s_appendO (T := 36) (k := 2) (by' := 16) (v := ρ 0) (v2 := vp) rfl rfl (by repeat (first | with_reducible exact Z.Take.here | apply Z.Take.there)) (by repeat (first | with_reducible exact Z.Take.here | apply Z.Take.there)) Try.underlying30 Try.typeInfo36 rfl (by decide) rfl rfl rfl (ones_cells _) (by omega) (by omega) (fun v11 hv11 => ?_)
      refine Z.j_cast (A := Z.Own 36 2 v11 (0 + xq.ps.length) ([] ++ (xq.ps.flatMap Cell.c))) (B := Z.Own 36 2 v11 xq.ps.length (xq.ps.flatMap Cell.c)) (by repeat (first | with_reducible exact Z.Take.here | apply Z.Take.there)) (by rw [Nat.zero_add, List.nil_append]) ?_
      refine Z.j_nil ?_
      refine Z.hn_end (by rfl) (fun w hs => ⟨rfl, Z.st_td (by repeat (first | with_reducible exact Z.Takes.nil | (apply Z.Takes.cons; (repeat (first | exact Z.Take.here | apply Z.Take.there))) | exact Z.Takes.nil)) (by repeat (first | with_reducible exact Z.Drop.nil | apply Z.Drop.cons)) w hs⟩)
    refine Z.tops_cons ?_ ?_
    · refine Z.top_q (fun ρ => .agg #[.int .i64 cl, .int .u32 ck]) rfl (fun _ => rfl) (fun ρ Rr => ?_)
      show Z.HQ _ _ _ _ _ _ (Z.cl b3 36 [.int .i64 cl, .int .u32 ck] :: Rr) _ _
      exact (Z.hq_val (Z.pv_loadA rfl (by repeat (first | with_reducible exact Z.Take.here | apply Z.Take.there)) Try.isAgg36 Try.sizeOf36 (by rfl)))
    refine Z.tops_cons ?_ ?_
    · refine Z.top_c rfl (fun ρ Rr => ?_)
      refine Z.hn_of rfl (by rfl) rfl (by rfl) ?_
      show Z.J _ _ _ _ ([] ++ Rr) _
      refine Z.j_app (by repeat (first | exact Z.App.nil | apply Z.App.cons)) ?_
      refine Z.s_buildSlice rfl Try.underlying30 Try.zeroValue36 Try.sizeOf36 rfl rfl rfl rfl (fun b13 => ?_)
      refine Z.J.own_mk (T := 36) (k := 2) (m := 1) (b := b13) (by repeat (first | with_reducible exact Z.Take.here | apply Z.Take.there)) rfl ?_
      refine Z.j_nil ?_
      refine Z.hn_end (by rfl) (fun w hs => ⟨rfl, Z.st_td (by repeat (first | with_reducible exact Z.Takes.nil | (apply Z.Takes.cons; (repeat (first | exact Z.Take.here | apply Z.Take.there))) | exact Z.Takes.nil)) (by repeat (first | with_reducible exact Z.Drop.nil | apply Z.Drop.cons)) w hs⟩)
    refine Z.tops_cons ?_ ?_
    · refine Z.top_c rfl (fun ρ Rr => ?_)
      refine Z.hn_of rfl (by rfl) rfl (by rfl) ?_
      show Z.J _ _ _ _ ([Z.Own 36 2 (ρ 3) xq.ps.length (xq.ps.flatMap Cell.c), Z.Own 36 2 (ρ 5) 1 [.int .i64 cl, .int .u32 ck]] ++ Rr) _
      refine Z.j_app (by repeat (first | exact Z.App.nil | apply Z.App.cons)) ?_
      refine Z.j_unown (T := 36) (k := 2) (v := ρ 5) (by repeat (first | with_reducible exact Z.Take.here | apply Z.Take.there)) (fun e1 e2 e3 => by cases e2) (fun nb cap sp e1 e2 e3 => ?_)
      refine Z.s_append (k := 2) (by' := 16) (cap2 := cap) rfl (by show some (ρ 5) = _; rw [e1]) (by repeat (first | with_reducible exact Z.Take.here | apply Z.Take.there)) (Z.reads_cl (by repeat (first | with_reducible exact Z.Take.here | apply Z.Take.there)) (k := 2) (slc_two _ _ _)) Try.underlying30 Try.typeInfo36 rfl rfl rfl rfl rfl rfl (.inl (by omega)) (by omega) (by omega) (fun v14 hv14 => ?_)
      refine Z.j_nil ?_
      refine Z.hn_end (by rfl) (fun w hs => ⟨rfl, Z.st_td (by repeat (first | with_reducible exact Z.Takes.nil | (apply Z.Takes.cons; (repeat (first | exact Z.Take.here | apply Z.Take.there))) | exact Z.Takes.nil)) (by repeat (first | with_reducible exact Z.Drop.nil | apply Z.Drop.cons)) w hs⟩)
    exact Z.tops_nil
  · show Z.J _ _ _ _ ([Z.cl b2 33 [vp, v2], Z.cl b3 36 [.int .i64 cl, .int .u32 ck], Z.Own 36 2 vp xq.ps.length (xq.ps.flatMap Cell.c), Z.Own 36 2 (ρ 6) (xq.ps.length + 1) ((xq.ps.flatMap Cell.c) ++ [.int .i64 cl, .int .u32 ck])] ++ _) _
    refine Z.j_app (by repeat (first | exact Z.App.nil | apply Z.App.cons)) ?_
    refine Z.s_val (Z.pv_fieldAddr (o' := 0) rfl Try.underlying33 rfl Try.sizeOf30 rfl) ?_
    refine Z.s_storeO (T2 := 36) (k := 2) (v := ρ 6) rfl rfl (by repeat (first | with_reducible exact Z.Take.here | apply Z.Take.there)) Try.sizeOf30 (by repeat (first | with_reducible exact Z.Upd.here | apply Z.Upd.there)) (by rfl) ?_
    refine Z.j_nil ?_
    refine Z.j_then ?_
    refine Z.j_seq ?_
    refine Z.j_region ?_
    refine Z.s_val (Z.pv_fieldAddr (o' := 1) rfl Try.underlying33 rfl Try.sizeOf31 rfl) ?_
    refine Z.s_val (Z.pv_load1 rfl (by repeat (first | with_reducible exact Z.Take.here | apply Z.Take.there)) Try.isAgg31 (by rfl)) ?_
    refine Z.s_buildSlice rfl Try.underlying31 Try.zeroValue4 Try.sizeOf4 rfl rfl rfl rfl (fun b18 => ?_)
    refine Z.s_append (k := 1) (by' := 1) rfl rfl (by repeat (first | with_reducible exact Z.Take.here | apply Z.Take.there)) (Z.reads_cl (by repeat (first | with_reducible exact Z.Take.here | apply Z.Take.there)) (k := 1) (by rfl)) Try.underlying31 Try.typeInfo4 rfl rfl rfl rfl rfl rfl (.inl (by omega)) (by omega) (by omega) (fun v19 hv19 => ?_)
    refine Z.s_val (Z.pv_fieldAddr (o' := 1) rfl Try.underlying33 rfl Try.sizeOf31 rfl) ?_
    refine Z.s_storeO (T2 := 4) (k := 1) (v := v19) rfl rfl (by repeat (first | with_reducible exact Z.Take.here | apply Z.Take.there)) Try.sizeOf31 (by repeat (first | with_reducible exact Z.Upd.here | apply Z.Upd.there)) (by rfl) ?_
    refine Z.j_nil ?_
    refine Z.j_then ?_
    refine Z.j_seq ?_
    refine Z.j_region ?_
    refine Z.s_val (Z.pv_loadA rfl (by repeat (first | with_reducible exact Z.Take.here | apply Z.Take.there)) Try.isAgg33 Try.sizeOf33 (by rfl)) ?_
    refine Z.J.own_one (T := 36) (k := 2) (v := ρ 6) (by repeat (first | with_reducible exact Z.Take.here | apply Z.Take.there)) (fun hw1 => ?_)
    refine Z.s_storeA rfl rfl Try.sizeOf33 (ones2 hw1 hv19) (by repeat (first | with_reducible exact Z.Upd.here | apply Z.Upd.there)) (by rfl) ?_
    refine Z.j_nil ?_
    refine Z.j_then ?_
    refine Z.j_ret ?_
    refine Z.j_cast (A := Z.Own 36 2 (ρ 6) (xq.ps.length + 1) ((xq.ps.flatMap Cell.c) ++ [.int .i64 cl, .int .u32 ck])) (B := OC (ρ 6) (xq.put (⟨cl, ck⟩ : Cell))) (by repeat (first | with_reducible exact Z.Take.here | apply Z.Take.there)) (by simp [OC, XSt.put, Cell.c]) ?_
    refine Z.j_cast (A := Z.Own 4 1 v19 (xq.ps.length + 1) ((dropL xq (⟨cl, ck⟩ : Cell) xq.ps.length).map Value.bool ++ [.bool true])) (B := OB v19 (xq.put (⟨cl, ck⟩ : Cell))) (by repeat (first | with_reducible exact Z.Take.here | apply Z.Take.there)) (by simp [OB, bls, XSt.put]) ?_
    refine Z.j_done_ret (Z.rv1 (Z.rv_cellA (x := 4) (T := 33) rfl (by repeat (first | with_reducible exact Z.Take.here | apply Z.Take.there)) Try.isAgg33 Try.sizeOf33 (by rfl))) ?_
    exact Z.post_of ⟨ρ 6, v19, rfl, rfl⟩ (by repeat (first | with_reducible exact Z.Takes.nil | (apply Z.Takes.cons; (repeat (first | with_reducible exact Z.Take.here | apply Z.Take.there))))) (by repeat (first | with_reducible exact Z.Drop.nil | apply Z.Drop.cons))

end Go.Proofs.Ytleofndjeekalaa
