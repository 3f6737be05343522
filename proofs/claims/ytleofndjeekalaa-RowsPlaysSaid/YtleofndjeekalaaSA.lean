/- Rows: the document's answers about what was put. -/
import Derived.Test.YtleofndjeekalaaS9
import Derived.Test.YtleofndjeekalaaC7
import Derived.Test.YtleofndjeekalaaZu
namespace Go.Proofs.Ytleofndjeekalaa
open Go Go.RowKit

abbrev bls (xq : XSt) : List Value := xq.ls.map Value.bool
abbrev OC (vp : Value) (xq : XSt) : Z.SP := Z.Own 36 2 vp xq.ps.length (xq.ps.flatMap Cell.c)
abbrev OB (vl : Value) (xq : XSt) : Z.SP := Z.Own 4 1 vl xq.ps.length (bls xq)
theorem get_ls {xq : XSt} (hl : xq.ls.length = xq.ps.length) {i : Nat} (sp : List Value) (h : i < xq.ps.length) : (bls xq ++ sp)[i]? = some (.bool (decide (xq.la i = true))) := by
  have h' : i < xq.ls.length := by omega
  rw [List.getElem?_append_left (by simpa using h')]
  simp [XSt.la, List.getElem?_eq_getElem h', List.getD]
theorem slc_ps {xq : XSt} {i : Nat} (sp : List Value) (h : i < xq.ps.length) : Z.slc (xq.ps.flatMap Cell.c ++ sp) (i * 2) 2 = some [.int .i64 (xq.pa i).l, .int .u32 (xq.pa i).k] := slc_cell sp h
theorem upto {P : Nat → Prop} {i : Nat} (h : ∀ j, j < i → P j) (hi : P i) : ∀ j, j < i + 1 → P j := fun j hj => by
  rcases Nat.lt_or_ge j i with h' | h'
  · exact h j h'
  · have e : j = i := by omega
    rw [e]; exact hi
theorem pa_mem {xq : XSt} {i : Nat} (h : i < xq.ps.length) : xq.pa i ∈ xq.ps := by
  have e : xq.pa i = xq.ps[i] := by simp [XSt.pa, List.getElem?_eq_getElem h, List.getD]
  rw [e]; exact List.getElem_mem h
theorem not_mem {xq : XSt} {c : Cell} (h : ∀ j, j < xq.ps.length → ¬ xq.pa j = c) : c ∉ xq.ps := fun hm => by
  obtain ⟨i, hi, e⟩ := List.getElem_of_mem hm
  exact h i hi (by simp [XSt.pa, List.getElem?_eq_getElem hi, List.getD, e])
theorem take_s {xq : XSt} {i k : Nat} (h : k < xq.ps.length) : xq.ps.take (k + 1) = xq.ps.take k ++ [xq.pa k] := by
  rw [List.take_add_one, List.getElem?_eq_getElem h]
  simp [XSt.pa, List.getElem?_eq_getElem h, List.getD]
theorem take_t {xq : XSt} {i k : Nat} (h : k < xq.ps.length) (e : xq.pa k = xq.pa i) : decide (xq.pa i ∉ xq.ps.take (k + 1)) = false := by
  rw [take_s (i := i) h]; simp [e]
theorem take_f {xq : XSt} {i k : Nat} (h : k < xq.ps.length) (e : ¬ xq.pa k = xq.pa i) : decide (xq.pa i ∉ xq.ps.take (k + 1)) = decide (xq.pa i ∉ xq.ps.take k) := by
  have e' : ¬ xq.pa i = xq.pa k := fun h => e h.symm
  rw [take_s (i := i) h]; simp [e']

set_option maxHeartbeats 4000000 in
set_option maxRecDepth 100000 in
theorem xver_spec (w0 : World) (vp vl : Value) (r : RSt) (xq : XSt) (hR : Rel r xq) (h60 : xq.ps.length ≤ 60) (cl ck : Int) : Z.FnD Try.prog w0 9 [.agg #[vp, vl], .agg #[.int .i64 cl, .int .u32 ck]] [OC vp xq, OB vl xq] (.int .i64 (Z.mval (⟨cl, ck⟩ : Cell) 0 r.ver)) [OC vp xq, OB vl xq] := by
  refine Z.Fn.fnD ?_
  refine Z.fn_enter (n := 29) Try.func9 rfl (by rfl) (by rfl) (fun Fr => ?_)
  refine Z.j_app (by repeat (first | exact Z.App.nil | apply Z.App.cons)) ?_
  refine Z.j_seq ?_
  refine Z.j_region ?_
  refine Z.s_box rfl (fun b2 => ?_)
  refine Z.s_box rfl (fun b3 => ?_)
  refine Z.s_val (Z.pv_assign rfl) ?_
  refine Z.j_nil ?_
  refine Z.j_then ?_
  refine Z.j_seq ?_
  refine Z.j_seq ?_
  refine Z.j_region ?_
  refine Z.s_val (Z.pv_assign rfl) ?_
  refine Z.j_nil ?_
  refine Z.j_then ?_
  refine Z.j_block ?_
  refine Z.j_initF (E' := [(2, .pointer (some ⟨b2, 0, none⟩)), (3, .pointer (some ⟨b3, 0, none⟩)), (5, .int .i64 ((0) : Nat))]) (As := [Z.cl b2 33 [vp, vl], Z.cl b3 36 [.int .i64 cl, .int .u32 ck], OC vp xq, OB vl xq]) (Fr := Fr) (by repeat (first | exact trivial | refine ⟨rfl, ?_⟩)) (by repeat (first | with_reducible exact Z.Takes.nil | (apply Z.Takes.cons; (repeat (first | with_reducible exact Z.Take.here | apply Z.Take.there))))) (by repeat (first | with_reducible exact Z.Drop.nil | apply Z.Drop.cons)) ?_
  refine Z.j_loop (X := { x : (Nat) // (x) ≤ xq.ps.length ∧ ∀ j, j < (x) → ¬ (xq.la j = true ∧ xq.pa j = (⟨cl, ck⟩ : Cell)) }) (fun (x : { x : (Nat) // (x) ≤ xq.ps.length ∧ ∀ j, j < (x) → ¬ (xq.la j = true ∧ xq.pa j = (⟨cl, ck⟩ : Cell)) }) => [(2, .pointer (some ⟨b2, 0, none⟩)), (3, .pointer (some ⟨b3, 0, none⟩)), (5, .int .i64 ((x.1) : Nat))]) (fun x => (fun (x : { x : (Nat) // (x) ≤ xq.ps.length ∧ ∀ j, j < (x) → ¬ (xq.la j = true ∧ xq.pa j = (⟨cl, ck⟩ : Cell)) }) => [Z.cl b2 33 [vp, vl], Z.cl b3 36 [.int .i64 cl, .int .u32 ck], OC vp xq, OB vl xq]) x ++ Fr) (fun (x : { x : (Nat) // (x) ≤ xq.ps.length ∧ ∀ j, j < (x) → ¬ (xq.la j = true ∧ xq.pa j = (⟨cl, ck⟩ : Cell)) }) => xq.ps.length - (x.1)) ⟨(0), ⟨by omega, fun j hj => by omega⟩⟩ (fun x => ?_)
  obtain ⟨i, hinv⟩ := x
  have hinv' : i ≤ xq.ps.length ∧ ∀ j, j < i → ¬ (xq.la j = true ∧ xq.pa j = (⟨cl, ck⟩ : Cell)) := hinv
  obtain ⟨hi, hall⟩ := hinv'
  show Z.J _ _ _ ([(2, .pointer (some ⟨b2, 0, none⟩)), (3, .pointer (some ⟨b3, 0, none⟩)), (5, .int .i64 (i : Nat))]) ([Z.cl b2 33 [vp, vl], Z.cl b3 36 [.int .i64 cl, .int .u32 ck], OC vp xq, OB vl xq] ++ Fr) _
  refine Z.j_app (by repeat (first | exact Z.App.nil | apply Z.App.cons)) ?_
  refine Z.j_seq ?_
  refine Z.j_seq ?_
  refine Z.j_region ?_
  refine Z.s_val (Z.pv_move rfl) ?_
  refine Z.s_val (Z.pv_fieldAddr (o' := 0) rfl Try.underlying33 rfl Try.sizeOf30 rfl) ?_
  refine Z.s_val (Z.pv_load1 rfl (by repeat (first | with_reducible exact Z.Take.here | apply Z.Take.there)) Try.isAgg30 (by rfl)) ?_
  refine Z.s_val (Z.pv_lenO rfl (by repeat (first | with_reducible exact Z.Take.here | apply Z.Take.there)) Try.underlying30) ?_
  refine Z.s_val (Z.pv_lss rfl rfl) ?_
  refine Z.j_nil ?_
  refine Z.j_then ?_
  refine Z.j_cond rfl (fun hc10 => ?_) (fun hc10 => ?_)
  · try (with_reducible first | replace hc10 := of_decide_eq_true hc10 | replace hc10 := of_decide_eq_false hc10 | replace hc10 := Z.nd_true hc10 | replace hc10 := Z.nd_false hc10 | replace hc10 := Z.nn_true hc10 | replace hc10 := Z.nn_false hc10 | replace hc10 := Z.nb_true hc10 | replace hc10 := Z.nb_false hc10)
    first
    | (exfalso; first | (cases hc10; done) | omega)
    | skip
      refine Z.j_skip ?_
      refine Z.j_then ?_
      refine Z.j_seq ?_
      refine Z.j_block ?_
      refine Z.j_seq ?_
      refine Z.j_unown (T := 36) (k := 2) (v := vp) (m := xq.ps.length) (c := xq.ps.flatMap Cell.c) (by repeat (first | exact Z.Take.here | apply Z.Take.there)) (fun e1 e2 e3 => by exfalso; omega) (fun nb cap sp e1 e2 e3 => ?_)
      refine Z.j_unown (T := 4) (k := 1) (v := vl) (m := xq.ps.length) (c := bls xq) (by repeat (first | exact Z.Take.here | apply Z.Take.there)) (fun f1 f2 f3 => by exfalso; omega) (fun nb2 cap2 sp2 f1 f2 f3 => ?_)
      by_cases hd18 : xq.la i = true
      · skip
        refine Z.j_draw (vals := [_, _, _, _, _, _, _, _, _, _, _, _, _, _]) 14 (by kernel_rfl) (by kernel_rfl) rfl (by rfl) (Z.heads_cons (Z.hq_val (Z.pv_fieldAddr (o' := 1) (by rfl) Try.underlying33 (by rfl) (by exact Try.sizeOf31) (by rfl))) (Z.heads_cons (Z.hq_val (Z.pv_load1 (by rfl) (by repeat (first | with_reducible exact Z.Take.here | apply Z.Take.there)) Try.isAgg31 (by rfl))) (Z.heads_cons (Z.hq_val (Z.pv_move (by rfl))) (Z.heads_cons (Z.hq_val (Z.pv_indexAddr (o' := i) (b := nb2) (o := 0) (len := xq.ps.length) (cap := cap2) (by show some vl = _; rw [f1]) (by rfl) Try.underlying31 (by exact Try.sizeOf4) (by omega) (by simp))) (Z.heads_cons (Z.hq_val (Z.pv_load1 (v := .bool (decide (xq.la i = true))) (by rfl) (by repeat (first | with_reducible exact Z.Take.here | apply Z.Take.there)) Try.isAgg4 (get_ls hR.len sp2 (by omega)))) (Z.heads_cons (Z.hq_val (Z.pv_is (Z.pv_move (by rfl)) (Z.bool_t hd18))) (Z.heads_cons (Z.hq_val (Z.pv_fieldAddr (o' := 0) (by rfl) Try.underlying33 (by rfl) (by exact Try.sizeOf30) (by rfl))) (Z.heads_cons (Z.hq_val (Z.pv_load1 (by rfl) (by repeat (first | with_reducible exact Z.Take.here | apply Z.Take.there)) Try.isAgg30 (by rfl))) (Z.heads_cons (Z.hq_val (Z.pv_move (by rfl))) (Z.heads_cons (Z.hq_val (Z.pv_indexAddr (o' := i * 2) (b := nb) (o := 0) (len := xq.ps.length) (cap := cap) (by show some vp = _; rw [e1]) (by rfl) Try.underlying30 (by exact Try.sizeOf36) (by omega) (by simp))) (Z.heads_cons (Z.hq_val (Z.pv_loadA (by rfl) (by repeat (first | with_reducible exact Z.Take.here | apply Z.Take.there)) Try.isAgg36 (by exact Try.sizeOf36) (slc_ps (i := i) sp (by omega)))) (Z.heads_cons (Z.hq_val (Z.pv_loadA (by rfl) (by repeat (first | with_reducible exact Z.Take.here | apply Z.Take.there)) Try.isAgg36 (by exact Try.sizeOf36) (by rfl))) (Z.heads_cons (Z.hq_val (Z.pv_eqA (by rfl) (by rfl) Try.eqGuardType36 Try.underlying36 Try.stoodInHeld36 (cells_eq _ _ ⟨_, _⟩) (by rfl))) (Z.heads_cons (Z.hq_val (Z.pv_pick (by rfl) (by rfl))) Z.heads_nil)))))))))))))) ?_
        refine Z.j_nil ?_
        refine Z.j_then ?_
        refine Z.j_cond rfl (fun hc26 => ?_) (fun hc26 => ?_)
        · try (with_reducible first | replace hc26 := of_decide_eq_true hc26 | replace hc26 := of_decide_eq_false hc26 | replace hc26 := Z.nd_true hc26 | replace hc26 := Z.nd_false hc26 | replace hc26 := Z.nn_true hc26 | replace hc26 := Z.nn_false hc26 | replace hc26 := Z.nb_true hc26 | replace hc26 := Z.nb_false hc26)
          first
          | (exfalso; first | (cases hc26; done) | omega)
          | skip
            refine Z.j_seq ?_
            refine Z.j_own (T := 36) (k := 2) (m := xq.ps.length) (cap := cap) (c := xq.ps.flatMap Cell.c) (sp := sp) (by repeat (first | with_reducible exact Z.Take.here | apply Z.Take.there)) e2 e3 ?_
            rw [← e1]
            refine Z.j_own (T := 4) (k := 1) (m := xq.ps.length) (cap := cap2) (c := bls xq) (sp := sp2) (by repeat (first | with_reducible exact Z.Take.here | apply Z.Take.there)) f2 f3 ?_
            rw [← f1]
            refine Z.j_region ?_
            refine Z.s_val (Z.pv_move rfl) ?_
            refine Z.s_val (Z.pv_add rfl rfl (by first | exact IntWalk.i64_in _ (by omega) | rfl)) ?_
            refine Z.s_val (Z.pv_assign rfl) ?_
            refine Z.j_nil ?_
            refine Z.j_then ?_
            refine Z.j_ret ?_
            refine Z.j_blk_ret ?_
            refine Z.j_then_ret ?_
            refine Z.j_then_ret ?_
            refine Z.j_blk_ret ?_
            refine Z.j_then_ret ?_
            refine Z.j_done_ret (Z.rv1 (Z.rv_tmp (t := 4) rfl)) ?_
            first | exact Z.post_of ⟨by rw [rel_none hR (fun j hj => hall j (by omega))], rfl⟩ (by repeat (first | with_reducible exact Z.Takes.nil | (apply Z.Takes.cons; (repeat (first | with_reducible exact Z.Take.here | apply Z.Take.there))))) (by repeat (first | with_reducible exact Z.Drop.nil | apply Z.Drop.cons)) | exact Z.post_of ⟨by rw [rel_some hR (i := i) (by omega) hd18 hc26], rfl⟩ (by repeat (first | with_reducible exact Z.Takes.nil | (apply Z.Takes.cons; (repeat (first | with_reducible exact Z.Take.here | apply Z.Take.there))))) (by repeat (first | with_reducible exact Z.Drop.nil | apply Z.Drop.cons))
        · try (with_reducible first | replace hc26 := of_decide_eq_true hc26 | replace hc26 := of_decide_eq_false hc26 | replace hc26 := Z.nd_true hc26 | replace hc26 := Z.nd_false hc26 | replace hc26 := Z.nn_true hc26 | replace hc26 := Z.nn_false hc26 | replace hc26 := Z.nb_true hc26 | replace hc26 := Z.nb_false hc26)
          first
          | (exfalso; first | (cases hc26; done) | omega)
          | skip
            refine Z.j_skip ?_
            refine Z.j_blk ?_
            refine Z.j_then ?_
            refine Z.j_region ?_
            refine Z.s_val (Z.pv_move rfl) ?_
            refine Z.s_val (Z.pv_add rfl rfl (by first | exact IntWalk.i64_in _ (by omega) | rfl)) ?_
            refine Z.s_val (Z.pv_assign rfl) ?_
            refine Z.j_nil ?_
            refine Z.j_then ?_
            refine Z.j_own (T := 36) (k := 2) (m := xq.ps.length) (cap := cap) (c := xq.ps.flatMap Cell.c) (sp := sp) (by repeat (first | with_reducible exact Z.Take.here | apply Z.Take.there)) e2 e3 ?_
            rw [← e1]
            refine Z.j_own (T := 4) (k := 1) (m := xq.ps.length) (cap := cap2) (c := bls xq) (sp := sp2) (by repeat (first | with_reducible exact Z.Take.here | apply Z.Take.there)) f2 f3 ?_
            rw [← f1]
            (refine Z.j_nextG (X := { x : (Nat) // (x) ≤ xq.ps.length ∧ ∀ j, j < (x) → ¬ (xq.la j = true ∧ xq.pa j = (⟨cl, ck⟩ : Cell)) }) (EE := (fun (x : { x : (Nat) // (x) ≤ xq.ps.length ∧ ∀ j, j < (x) → ¬ (xq.la j = true ∧ xq.pa j = (⟨cl, ck⟩ : Cell)) }) => [(2, .pointer (some ⟨b2, 0, none⟩)), (3, .pointer (some ⟨b3, 0, none⟩)), (5, .int .i64 ((x.1) : Nat))])) (LL := (fun (x : { x : (Nat) // (x) ≤ xq.ps.length ∧ ∀ j, j < (x) → ¬ (xq.la j = true ∧ xq.pa j = (⟨cl, ck⟩ : Cell)) }) => [Z.cl b2 33 [vp, vl], Z.cl b3 36 [.int .i64 cl, .int .u32 ck], OC vp xq, OB vl xq])) (μ := (fun (x : { x : (Nat) // (x) ≤ xq.ps.length ∧ ∀ j, j < (x) → ¬ (xq.la j = true ∧ xq.pa j = (⟨cl, ck⟩ : Cell)) }) => xq.ps.length - (x.1))) (x := ⟨(i), hinv⟩) ⟨(i + 1), ⟨by omega, by first | exact upto hall (fun h => hd18 h.1) | exact upto hall (fun h => hc26 h.2)⟩⟩ ?_ ?_ ?_; (show xq.ps.length - (i + 1) < xq.ps.length - i; omega); (exact (by repeat (first | exact trivial | refine ⟨rfl, ?_⟩))); (exact Z.st_td (by repeat (first | with_reducible exact Z.Takes.nil | (apply Z.Takes.cons; (repeat (first | with_reducible exact Z.Take.here | apply Z.Take.there))))) (by repeat (first | with_reducible exact Z.Drop.nil | apply Z.Drop.cons))))
      · skip
        refine Z.j_draw (vals := [_, _, _, _, _, _, _, _, _, _, _, _, _, _]) 14 (by kernel_rfl) (by kernel_rfl) rfl (by rfl) (Z.heads_cons (Z.hq_val (Z.pv_fieldAddr (o' := 1) (by rfl) Try.underlying33 (by rfl) (by exact Try.sizeOf31) (by rfl))) (Z.heads_cons (Z.hq_val (Z.pv_load1 (by rfl) (by repeat (first | with_reducible exact Z.Take.here | apply Z.Take.there)) Try.isAgg31 (by rfl))) (Z.heads_cons (Z.hq_val (Z.pv_move (by rfl))) (Z.heads_cons (Z.hq_val (Z.pv_indexAddr (o' := i) (b := nb2) (o := 0) (len := xq.ps.length) (cap := cap2) (by show some vl = _; rw [f1]) (by rfl) Try.underlying31 (by exact Try.sizeOf4) (by omega) (by simp))) (Z.heads_cons (Z.hq_val (Z.pv_load1 (v := .bool (decide (xq.la i = true))) (by rfl) (by repeat (first | with_reducible exact Z.Take.here | apply Z.Take.there)) Try.isAgg4 (get_ls hR.len sp2 (by omega)))) (Z.heads_cons (Z.hq_val (Z.pv_is (Z.pv_move (by rfl)) (Z.bool_f hd18))) (Z.heads_cons Z.hq_skip (Z.heads_cons Z.hq_skip (Z.heads_cons Z.hq_skip (Z.heads_cons Z.hq_skip (Z.heads_cons Z.hq_skip (Z.heads_cons Z.hq_skip (Z.heads_cons Z.hq_skip (Z.heads_cons (Z.hq_val (Z.pv_pick (by rfl) (by rfl))) Z.heads_nil)))))))))))))) ?_
        refine Z.j_nil ?_
        refine Z.j_then ?_
        refine Z.j_cond rfl (fun hc26 => ?_) (fun hc26 => ?_)
        · try (with_reducible first | replace hc26 := of_decide_eq_true hc26 | replace hc26 := of_decide_eq_false hc26 | replace hc26 := Z.nd_true hc26 | replace hc26 := Z.nd_false hc26 | replace hc26 := Z.nn_true hc26 | replace hc26 := Z.nn_false hc26 | replace hc26 := Z.nb_true hc26 | replace hc26 := Z.nb_false hc26)
          first
          | (exfalso; first | (cases hc26; done) | omega)
          | skip
            refine Z.j_seq ?_
            refine Z.j_own (T := 36) (k := 2) (m := xq.ps.length) (cap := cap) (c := xq.ps.flatMap Cell.c) (sp := sp) (by repeat (first | with_reducible exact Z.Take.here | apply Z.Take.there)) e2 e3 ?_
            rw [← e1]
            refine Z.j_own (T := 4) (k := 1) (m := xq.ps.length) (cap := cap2) (c := bls xq) (sp := sp2) (by repeat (first | with_reducible exact Z.Take.here | apply Z.Take.there)) f2 f3 ?_
            rw [← f1]
            refine Z.j_region ?_
            refine Z.s_val (Z.pv_move rfl) ?_
            refine Z.s_val (Z.pv_add rfl rfl (by first | exact IntWalk.i64_in _ (by omega) | rfl)) ?_
            refine Z.s_val (Z.pv_assign rfl) ?_
            refine Z.j_nil ?_
            refine Z.j_then ?_
            refine Z.j_ret ?_
            refine Z.j_blk_ret ?_
            refine Z.j_then_ret ?_
            refine Z.j_then_ret ?_
            refine Z.j_blk_ret ?_
            refine Z.j_then_ret ?_
            refine Z.j_done_ret (Z.rv1 (Z.rv_tmp (t := 4) rfl)) ?_
            first | exact Z.post_of ⟨by rw [rel_none hR (fun j hj => hall j (by omega))], rfl⟩ (by repeat (first | with_reducible exact Z.Takes.nil | (apply Z.Takes.cons; (repeat (first | with_reducible exact Z.Take.here | apply Z.Take.there))))) (by repeat (first | with_reducible exact Z.Drop.nil | apply Z.Drop.cons)) | exact Z.post_of ⟨by rw [rel_some hR (i := i) (by omega) hd18 hc26], rfl⟩ (by repeat (first | with_reducible exact Z.Takes.nil | (apply Z.Takes.cons; (repeat (first | with_reducible exact Z.Take.here | apply Z.Take.there))))) (by repeat (first | with_reducible exact Z.Drop.nil | apply Z.Drop.cons))
        · try (with_reducible first | replace hc26 := of_decide_eq_true hc26 | replace hc26 := of_decide_eq_false hc26 | replace hc26 := Z.nd_true hc26 | replace hc26 := Z.nd_false hc26 | replace hc26 := Z.nn_true hc26 | replace hc26 := Z.nn_false hc26 | replace hc26 := Z.nb_true hc26 | replace hc26 := Z.nb_false hc26)
          first
          | (exfalso; first | (cases hc26; done) | omega)
          | skip
            refine Z.j_skip ?_
            refine Z.j_blk ?_
            refine Z.j_then ?_
            refine Z.j_region ?_
            refine Z.s_val (Z.pv_move rfl) ?_
            refine Z.s_val (Z.pv_add rfl rfl (by first | exact IntWalk.i64_in _ (by omega) | rfl)) ?_
            refine Z.s_val (Z.pv_assign rfl) ?_
            refine Z.j_nil ?_
            refine Z.j_then ?_
            refine Z.j_own (T := 36) (k := 2) (m := xq.ps.length) (cap := cap) (c := xq.ps.flatMap Cell.c) (sp := sp) (by repeat (first | with_reducible exact Z.Take.here | apply Z.Take.there)) e2 e3 ?_
            rw [← e1]
            refine Z.j_own (T := 4) (k := 1) (m := xq.ps.length) (cap := cap2) (c := bls xq) (sp := sp2) (by repeat (first | with_reducible exact Z.Take.here | apply Z.Take.there)) f2 f3 ?_
            rw [← f1]
            (refine Z.j_nextG (X := { x : (Nat) // (x) ≤ xq.ps.length ∧ ∀ j, j < (x) → ¬ (xq.la j = true ∧ xq.pa j = (⟨cl, ck⟩ : Cell)) }) (EE := (fun (x : { x : (Nat) // (x) ≤ xq.ps.length ∧ ∀ j, j < (x) → ¬ (xq.la j = true ∧ xq.pa j = (⟨cl, ck⟩ : Cell)) }) => [(2, .pointer (some ⟨b2, 0, none⟩)), (3, .pointer (some ⟨b3, 0, none⟩)), (5, .int .i64 ((x.1) : Nat))])) (LL := (fun (x : { x : (Nat) // (x) ≤ xq.ps.length ∧ ∀ j, j < (x) → ¬ (xq.la j = true ∧ xq.pa j = (⟨cl, ck⟩ : Cell)) }) => [Z.cl b2 33 [vp, vl], Z.cl b3 36 [.int .i64 cl, .int .u32 ck], OC vp xq, OB vl xq])) (μ := (fun (x : { x : (Nat) // (x) ≤ xq.ps.length ∧ ∀ j, j < (x) → ¬ (xq.la j = true ∧ xq.pa j = (⟨cl, ck⟩ : Cell)) }) => xq.ps.length - (x.1))) (x := ⟨(i), hinv⟩) ⟨(i + 1), ⟨by omega, by first | exact upto hall (fun h => hd18 h.1) | exact upto hall (fun h => hc26 h.2)⟩⟩ ?_ ?_ ?_; (show xq.ps.length - (i + 1) < xq.ps.length - i; omega); (exact (by repeat (first | exact trivial | refine ⟨rfl, ?_⟩))); (exact Z.st_td (by repeat (first | with_reducible exact Z.Takes.nil | (apply Z.Takes.cons; (repeat (first | with_reducible exact Z.Take.here | apply Z.Take.there))))) (by repeat (first | with_reducible exact Z.Drop.nil | apply Z.Drop.cons))))
  · try (with_reducible first | replace hc10 := of_decide_eq_true hc10 | replace hc10 := of_decide_eq_false hc10 | replace hc10 := Z.nd_true hc10 | replace hc10 := Z.nd_false hc10 | replace hc10 := Z.nn_true hc10 | replace hc10 := Z.nn_false hc10 | replace hc10 := Z.nb_true hc10 | replace hc10 := Z.nb_false hc10)
    first
    | (exfalso; first | (cases hc10; done) | omega)
    | skip
      refine Z.j_exit ?_
      refine Z.j_then_exit ?_
      refine Z.j_then_exit ?_
      refine Z.j_blk_here rfl ?_
      refine Z.j_then ?_
      refine Z.j_seq ?_
      refine Z.j_region ?_
      refine Z.s_val (Z.pv_assign rfl) ?_
      refine Z.j_nil ?_
      refine Z.j_then ?_
      refine Z.j_ret ?_
      refine Z.j_done_ret (Z.rv1 (Z.rv_tmp (t := 4) rfl)) ?_
      first | exact Z.post_of ⟨by rw [rel_none hR (fun j hj => hall j (by omega))], rfl⟩ (by repeat (first | with_reducible exact Z.Takes.nil | (apply Z.Takes.cons; (repeat (first | with_reducible exact Z.Take.here | apply Z.Take.there))))) (by repeat (first | with_reducible exact Z.Drop.nil | apply Z.Drop.cons)) | exact Z.post_of ⟨by rw [rel_some hR (i := i) (by omega) hd18 hc26], rfl⟩ (by repeat (first | with_reducible exact Z.Takes.nil | (apply Z.Takes.cons; (repeat (first | with_reducible exact Z.Take.here | apply Z.Take.there))))) (by repeat (first | with_reducible exact Z.Drop.nil | apply Z.Drop.cons))

set_option maxHeartbeats 4000000 in
set_option maxRecDepth 100000 in
theorem xseen_spec (w0 : World) (vp vl : Value) (r : RSt) (xq : XSt) (hR : Rel r xq) (h60 : xq.ps.length ≤ 60) (cl ck : Int) : Z.FnD Try.prog w0 16 [.agg #[vp, vl], .agg #[.int .i64 cl, .int .u32 ck]] [OC vp xq, OB vl xq] (.bool (Z.mval (⟨cl, ck⟩ : Cell) false r.ev)) [OC vp xq, OB vl xq] := by
  refine Z.Fn.fnD ?_
  refine Z.fn_enter (n := 20) Try.func16 rfl (by rfl) (by rfl) (fun Fr => ?_)
  refine Z.j_app (by repeat (first | exact Z.App.nil | apply Z.App.cons)) ?_
  refine Z.j_seq ?_
  refine Z.j_region ?_
  refine Z.s_box rfl (fun b2 => ?_)
  refine Z.s_box rfl (fun b3 => ?_)
  refine Z.s_val (Z.pv_assign rfl) ?_
  refine Z.j_nil ?_
  refine Z.j_then ?_
  refine Z.j_seq ?_
  refine Z.j_seq ?_
  refine Z.j_region ?_
  refine Z.s_val (Z.pv_assign rfl) ?_
  refine Z.j_nil ?_
  refine Z.j_then ?_
  refine Z.j_block ?_
  refine Z.j_initF (E' := [(2, .pointer (some ⟨b2, 0, none⟩)), (3, .pointer (some ⟨b3, 0, none⟩)), (5, .int .i64 ((0) : Nat))]) (As := [Z.cl b2 33 [vp, vl], Z.cl b3 36 [.int .i64 cl, .int .u32 ck], OC vp xq, OB vl xq]) (Fr := Fr) (by repeat (first | exact trivial | refine ⟨rfl, ?_⟩)) (by repeat (first | with_reducible exact Z.Takes.nil | (apply Z.Takes.cons; (repeat (first | with_reducible exact Z.Take.here | apply Z.Take.there))))) (by repeat (first | with_reducible exact Z.Drop.nil | apply Z.Drop.cons)) ?_
  refine Z.j_loop (X := { x : (Nat) // (x) ≤ xq.ps.length ∧ ∀ j, j < (x) → ¬ xq.pa j = (⟨cl, ck⟩ : Cell) }) (fun (x : { x : (Nat) // (x) ≤ xq.ps.length ∧ ∀ j, j < (x) → ¬ xq.pa j = (⟨cl, ck⟩ : Cell) }) => [(2, .pointer (some ⟨b2, 0, none⟩)), (3, .pointer (some ⟨b3, 0, none⟩)), (5, .int .i64 ((x.1) : Nat))]) (fun x => (fun (x : { x : (Nat) // (x) ≤ xq.ps.length ∧ ∀ j, j < (x) → ¬ xq.pa j = (⟨cl, ck⟩ : Cell) }) => [Z.cl b2 33 [vp, vl], Z.cl b3 36 [.int .i64 cl, .int .u32 ck], OC vp xq, OB vl xq]) x ++ Fr) (fun (x : { x : (Nat) // (x) ≤ xq.ps.length ∧ ∀ j, j < (x) → ¬ xq.pa j = (⟨cl, ck⟩ : Cell) }) => xq.ps.length - (x.1)) ⟨(0), ⟨by omega, fun j hj => by omega⟩⟩ (fun x => ?_)
  obtain ⟨i, hinv⟩ := x
  have hinv' : i ≤ xq.ps.length ∧ ∀ j, j < i → ¬ xq.pa j = (⟨cl, ck⟩ : Cell) := hinv
  obtain ⟨hi, hall⟩ := hinv'
  show Z.J _ _ _ ([(2, .pointer (some ⟨b2, 0, none⟩)), (3, .pointer (some ⟨b3, 0, none⟩)), (5, .int .i64 (i : Nat))]) ([Z.cl b2 33 [vp, vl], Z.cl b3 36 [.int .i64 cl, .int .u32 ck], OC vp xq, OB vl xq] ++ Fr) _
  refine Z.j_app (by repeat (first | exact Z.App.nil | apply Z.App.cons)) ?_
  refine Z.j_seq ?_
  refine Z.j_seq ?_
  refine Z.j_region ?_
  refine Z.s_val (Z.pv_move rfl) ?_
  refine Z.s_val (Z.pv_fieldAddr (o' := 0) rfl Try.underlying33 rfl Try.sizeOf30 rfl) ?_
  refine Z.s_val (Z.pv_load1 rfl (by repeat (first | with_reducible exact Z.Take.here | apply Z.Take.there)) Try.isAgg30 (by rfl)) ?_
  refine Z.s_val (Z.pv_lenO rfl (by repeat (first | with_reducible exact Z.Take.here | apply Z.Take.there)) Try.underlying30) ?_
  refine Z.s_val (Z.pv_lss rfl rfl) ?_
  refine Z.j_nil ?_
  refine Z.j_then ?_
  refine Z.j_cond rfl (fun hc10 => ?_) (fun hc10 => ?_)
  · try (with_reducible first | replace hc10 := of_decide_eq_true hc10 | replace hc10 := of_decide_eq_false hc10 | replace hc10 := Z.nd_true hc10 | replace hc10 := Z.nd_false hc10 | replace hc10 := Z.nn_true hc10 | replace hc10 := Z.nn_false hc10 | replace hc10 := Z.nb_true hc10 | replace hc10 := Z.nb_false hc10)
    first
    | (exfalso; first | (cases hc10; done) | omega)
    | skip
      refine Z.j_skip ?_
      refine Z.j_then ?_
      refine Z.j_seq ?_
      refine Z.j_block ?_
      refine Z.j_seq ?_
      refine Z.j_unown (T := 36) (k := 2) (v := vp) (m := xq.ps.length) (c := xq.ps.flatMap Cell.c) (by repeat (first | exact Z.Take.here | apply Z.Take.there)) (fun e1 e2 e3 => by exfalso; omega) (fun nb cap sp e1 e2 e3 => ?_)
      refine Z.j_draw (vals := [_, _, _, _, _, _, _]) 7 (by kernel_rfl) (by kernel_rfl) rfl (by rfl) (Z.heads_cons (Z.hq_val (Z.pv_fieldAddr (o' := 0) (by rfl) Try.underlying33 (by rfl) (by exact Try.sizeOf30) (by rfl))) (Z.heads_cons (Z.hq_val (Z.pv_load1 (by rfl) (by repeat (first | with_reducible exact Z.Take.here | apply Z.Take.there)) Try.isAgg30 (by rfl))) (Z.heads_cons (Z.hq_val (Z.pv_move (by rfl))) (Z.heads_cons (Z.hq_val (Z.pv_indexAddr (o' := i * 2) (b := nb) (o := 0) (len := xq.ps.length) (cap := cap) (by show some vp = _; rw [e1]) (by rfl) Try.underlying30 (by exact Try.sizeOf36) (by omega) (by simp))) (Z.heads_cons (Z.hq_val (Z.pv_loadA (by rfl) (by repeat (first | with_reducible exact Z.Take.here | apply Z.Take.there)) Try.isAgg36 (by exact Try.sizeOf36) (slc_ps (i := i) sp (by omega)))) (Z.heads_cons (Z.hq_val (Z.pv_loadA (by rfl) (by repeat (first | with_reducible exact Z.Take.here | apply Z.Take.there)) Try.isAgg36 (by exact Try.sizeOf36) (by rfl))) (Z.heads_cons (Z.hq_val (Z.pv_eqA (by rfl) (by rfl) Try.eqGuardType36 Try.underlying36 Try.stoodInHeld36 (cells_eq _ _ ⟨_, _⟩) (by rfl))) Z.heads_nil))))))) ?_
      refine Z.j_nil ?_
      refine Z.j_then ?_
      refine Z.j_cond rfl (fun hc19 => ?_) (fun hc19 => ?_)
      · try (with_reducible first | replace hc19 := of_decide_eq_true hc19 | replace hc19 := of_decide_eq_false hc19 | replace hc19 := Z.nd_true hc19 | replace hc19 := Z.nd_false hc19 | replace hc19 := Z.nn_true hc19 | replace hc19 := Z.nn_false hc19 | replace hc19 := Z.nb_true hc19 | replace hc19 := Z.nb_false hc19)
        first
        | (exfalso; first | (cases hc19; done) | omega)
        | skip
          refine Z.j_seq ?_
          refine Z.j_own (T := 36) (k := 2) (m := xq.ps.length) (cap := cap) (c := xq.ps.flatMap Cell.c) (sp := sp) (by repeat (first | with_reducible exact Z.Take.here | apply Z.Take.there)) e2 e3 ?_
          rw [← e1]
          refine Z.j_region ?_
          refine Z.s_val (Z.pv_assign rfl) ?_
          refine Z.j_nil ?_
          refine Z.j_then ?_
          refine Z.j_ret ?_
          refine Z.j_blk_ret ?_
          refine Z.j_then_ret ?_
          refine Z.j_then_ret ?_
          refine Z.j_blk_ret ?_
          refine Z.j_then_ret ?_
          refine Z.j_done_ret (Z.rv1 (Z.rv_tmp (t := 4) rfl)) ?_
          first | exact Z.post_of ⟨by rw [rel_seen hR, decide_eq_false (not_mem (fun j hj => hall j (by omega)))], rfl⟩ (by repeat (first | with_reducible exact Z.Takes.nil | (apply Z.Takes.cons; (repeat (first | with_reducible exact Z.Take.here | apply Z.Take.there))))) (by repeat (first | with_reducible exact Z.Drop.nil | apply Z.Drop.cons)) | exact Z.post_of ⟨by rw [rel_seen hR, decide_eq_true (by rw [← show xq.pa i = _ from hc19]; exact pa_mem (by omega))], rfl⟩ (by repeat (first | with_reducible exact Z.Takes.nil | (apply Z.Takes.cons; (repeat (first | with_reducible exact Z.Take.here | apply Z.Take.there))))) (by repeat (first | with_reducible exact Z.Drop.nil | apply Z.Drop.cons))
      · try (with_reducible first | replace hc19 := of_decide_eq_true hc19 | replace hc19 := of_decide_eq_false hc19 | replace hc19 := Z.nd_true hc19 | replace hc19 := Z.nd_false hc19 | replace hc19 := Z.nn_true hc19 | replace hc19 := Z.nn_false hc19 | replace hc19 := Z.nb_true hc19 | replace hc19 := Z.nb_false hc19)
        first
        | (exfalso; first | (cases hc19; done) | omega)
        | skip
          refine Z.j_skip ?_
          refine Z.j_blk ?_
          refine Z.j_then ?_
          refine Z.j_region ?_
          refine Z.s_val (Z.pv_move rfl) ?_
          refine Z.s_val (Z.pv_add rfl rfl (by first | exact IntWalk.i64_in _ (by omega) | rfl)) ?_
          refine Z.s_val (Z.pv_assign rfl) ?_
          refine Z.j_nil ?_
          refine Z.j_then ?_
          refine Z.j_own (T := 36) (k := 2) (m := xq.ps.length) (cap := cap) (c := xq.ps.flatMap Cell.c) (sp := sp) (by repeat (first | with_reducible exact Z.Take.here | apply Z.Take.there)) e2 e3 ?_
          rw [← e1]
          (refine Z.j_nextG (X := { x : (Nat) // (x) ≤ xq.ps.length ∧ ∀ j, j < (x) → ¬ xq.pa j = (⟨cl, ck⟩ : Cell) }) (EE := (fun (x : { x : (Nat) // (x) ≤ xq.ps.length ∧ ∀ j, j < (x) → ¬ xq.pa j = (⟨cl, ck⟩ : Cell) }) => [(2, .pointer (some ⟨b2, 0, none⟩)), (3, .pointer (some ⟨b3, 0, none⟩)), (5, .int .i64 ((x.1) : Nat))])) (LL := (fun (x : { x : (Nat) // (x) ≤ xq.ps.length ∧ ∀ j, j < (x) → ¬ xq.pa j = (⟨cl, ck⟩ : Cell) }) => [Z.cl b2 33 [vp, vl], Z.cl b3 36 [.int .i64 cl, .int .u32 ck], OC vp xq, OB vl xq])) (μ := (fun (x : { x : (Nat) // (x) ≤ xq.ps.length ∧ ∀ j, j < (x) → ¬ xq.pa j = (⟨cl, ck⟩ : Cell) }) => xq.ps.length - (x.1))) (x := ⟨(i), hinv⟩) ⟨(i + 1), ⟨by omega, upto hall hc19⟩⟩ ?_ ?_ ?_; (show xq.ps.length - (i + 1) < xq.ps.length - i; omega); (exact (by repeat (first | exact trivial | refine ⟨rfl, ?_⟩))); (exact Z.st_td (by repeat (first | with_reducible exact Z.Takes.nil | (apply Z.Takes.cons; (repeat (first | with_reducible exact Z.Take.here | apply Z.Take.there))))) (by repeat (first | with_reducible exact Z.Drop.nil | apply Z.Drop.cons))))
  · try (with_reducible first | replace hc10 := of_decide_eq_true hc10 | replace hc10 := of_decide_eq_false hc10 | replace hc10 := Z.nd_true hc10 | replace hc10 := Z.nd_false hc10 | replace hc10 := Z.nn_true hc10 | replace hc10 := Z.nn_false hc10 | replace hc10 := Z.nb_true hc10 | replace hc10 := Z.nb_false hc10)
    first
    | (exfalso; first | (cases hc10; done) | omega)
    | skip
      refine Z.j_exit ?_
      refine Z.j_then_exit ?_
      refine Z.j_then_exit ?_
      refine Z.j_blk_here rfl ?_
      refine Z.j_then ?_
      refine Z.j_seq ?_
      refine Z.j_region ?_
      refine Z.s_val (Z.pv_assign rfl) ?_
      refine Z.j_nil ?_
      refine Z.j_then ?_
      refine Z.j_ret ?_
      refine Z.j_done_ret (Z.rv1 (Z.rv_tmp (t := 4) rfl)) ?_
      first | exact Z.post_of ⟨by rw [rel_seen hR, decide_eq_false (not_mem (fun j hj => hall j (by omega)))], rfl⟩ (by repeat (first | with_reducible exact Z.Takes.nil | (apply Z.Takes.cons; (repeat (first | with_reducible exact Z.Take.here | apply Z.Take.there))))) (by repeat (first | with_reducible exact Z.Drop.nil | apply Z.Drop.cons)) | exact Z.post_of ⟨by rw [rel_seen hR, decide_eq_true (by rw [← show xq.pa i = _ from hc19]; exact pa_mem (by omega))], rfl⟩ (by repeat (first | with_reducible exact Z.Takes.nil | (apply Z.Takes.cons; (repeat (first | with_reducible exact Z.Take.here | apply Z.Take.there))))) (by repeat (first | with_reducible exact Z.Drop.nil | apply Z.Drop.cons))

set_option maxHeartbeats 4000000 in
set_option maxRecDepth 100000 in
theorem xever_spec (w0 : World) (vp vl : Value) (r : RSt) (xq : XSt) (hR : Rel r xq) (h60 : xq.ps.length ≤ 60) : Z.FnD Try.prog w0 18 [.agg #[vp, vl]] [OC vp xq, OB vl xq] (.int .i64 r.ev.length) [OC vp xq, OB vl xq] := by
  refine Z.Fn.fnD ?_
  refine Z.fn_enter (n := 34) Try.func18 rfl (by rfl) (by rfl) (fun Fr => ?_)
  refine Z.j_app (by repeat (first | exact Z.App.nil | apply Z.App.cons)) ?_
  refine Z.j_seq ?_
  refine Z.j_region ?_
  refine Z.s_box rfl (fun b1 => ?_)
  refine Z.s_val (Z.pv_assign rfl) ?_
  refine Z.j_nil ?_
  refine Z.j_then ?_
  refine Z.j_seq ?_
  refine Z.j_region ?_
  refine Z.s_val (Z.pv_assign rfl) ?_
  refine Z.j_nil ?_
  refine Z.j_then ?_
  refine Z.j_seq ?_
  refine Z.j_seq ?_
  refine Z.j_region ?_
  refine Z.s_val (Z.pv_assign rfl) ?_
  refine Z.j_nil ?_
  refine Z.j_then ?_
  refine Z.j_block ?_
  refine Z.j_initF (E' := [(1, .pointer (some ⟨b1, 0, none⟩)), (3, .int .i64 (evN xq.ps (0) : Nat)), (4, .int .i64 ((0) : Nat))]) (As := [Z.cl b1 33 [vp, vl], OC vp xq, OB vl xq]) (Fr := Fr) (by repeat (first | exact trivial | refine ⟨rfl, ?_⟩)) (by repeat (first | with_reducible exact Z.Takes.nil | (apply Z.Takes.cons; (repeat (first | with_reducible exact Z.Take.here | apply Z.Take.there))))) (by repeat (first | with_reducible exact Z.Drop.nil | apply Z.Drop.cons)) ?_
  refine Z.j_loop (X := { x : (Nat) // (x) ≤ xq.ps.length }) (fun (x : { x : (Nat) // (x) ≤ xq.ps.length }) => [(1, .pointer (some ⟨b1, 0, none⟩)), (3, .int .i64 (evN xq.ps (x.1) : Nat)), (4, .int .i64 ((x.1) : Nat))]) (fun x => (fun (x : { x : (Nat) // (x) ≤ xq.ps.length }) => [Z.cl b1 33 [vp, vl], OC vp xq, OB vl xq]) x ++ Fr) (fun (x : { x : (Nat) // (x) ≤ xq.ps.length }) => xq.ps.length - (x.1)) ⟨(0), by omega⟩ (fun x => ?_)
  obtain ⟨i, hinv⟩ := x
  have hinv' : i ≤ xq.ps.length := hinv
  have hi := hinv'
  show Z.J _ _ _ ([(1, .pointer (some ⟨b1, 0, none⟩)), (3, .int .i64 (evN xq.ps i : Nat)), (4, .int .i64 (i : Nat))]) ([Z.cl b1 33 [vp, vl], OC vp xq, OB vl xq] ++ Fr) _
  refine Z.j_app (by repeat (first | exact Z.App.nil | apply Z.App.cons)) ?_
  refine Z.j_seq ?_
  refine Z.j_seq ?_
  refine Z.j_region ?_
  refine Z.s_val (Z.pv_move rfl) ?_
  refine Z.s_val (Z.pv_fieldAddr (o' := 0) rfl Try.underlying33 rfl Try.sizeOf30 rfl) ?_
  refine Z.s_val (Z.pv_load1 rfl (by repeat (first | with_reducible exact Z.Take.here | apply Z.Take.there)) Try.isAgg30 (by rfl)) ?_
  refine Z.s_val (Z.pv_lenO rfl (by repeat (first | with_reducible exact Z.Take.here | apply Z.Take.there)) Try.underlying30) ?_
  refine Z.s_val (Z.pv_lss rfl rfl) ?_
  refine Z.j_nil ?_
  refine Z.j_then ?_
  refine Z.j_cond rfl (fun hc11 => ?_) (fun hc11 => ?_)
  · try (with_reducible first | replace hc11 := of_decide_eq_true hc11 | replace hc11 := of_decide_eq_false hc11 | replace hc11 := Z.nd_true hc11 | replace hc11 := Z.nd_false hc11 | replace hc11 := Z.nn_true hc11 | replace hc11 := Z.nn_false hc11 | replace hc11 := Z.nb_true hc11 | replace hc11 := Z.nb_false hc11)
    first
    | (exfalso; first | (cases hc11; done) | omega)
    | skip
      refine Z.j_skip ?_
      refine Z.j_then ?_
      refine Z.j_seq ?_
      refine Z.j_block ?_
      refine Z.j_seq ?_
      have hcn := evN_le xq.ps i
      have hsu := evN_succ xq.ps i
      refine Z.j_region ?_
      refine Z.s_val (Z.pv_assign rfl) ?_
      refine Z.j_nil ?_
      refine Z.j_then ?_
      refine Z.j_seq ?_
      refine Z.j_seq ?_
      refine Z.j_region ?_
      refine Z.s_val (Z.pv_assign rfl) ?_
      refine Z.j_nil ?_
      refine Z.j_then ?_
      refine Z.j_block ?_
      refine Z.s_is 5 rfl (show _ = Value.bool (decide (xq.pa i ∉ xq.ps.take 0)) from by simp) ?_
      refine Z.j_initF (E' := [(1, .pointer (some ⟨b1, 0, none⟩)), (3, .int .i64 (evN xq.ps i : Nat)), (4, .int .i64 (i : Nat)), (5, .bool (decide (xq.pa i ∉ xq.ps.take (0)))), (6, .int .i64 ((0) : Nat))]) (As := [Z.cl b1 33 [vp, vl], OC vp xq, OB vl xq]) (Fr := Fr) (by repeat (first | exact trivial | refine ⟨rfl, ?_⟩)) (by repeat (first | with_reducible exact Z.Takes.nil | (apply Z.Takes.cons; (repeat (first | with_reducible exact Z.Take.here | apply Z.Take.there))))) (by repeat (first | with_reducible exact Z.Drop.nil | apply Z.Drop.cons)) ?_
      refine Z.j_loop (X := { x : (Nat) // (x) ≤ i }) (fun (x : { x : (Nat) // (x) ≤ i }) => [(1, .pointer (some ⟨b1, 0, none⟩)), (3, .int .i64 (evN xq.ps i : Nat)), (4, .int .i64 (i : Nat)), (5, .bool (decide (xq.pa i ∉ xq.ps.take (x.1)))), (6, .int .i64 ((x.1) : Nat))]) (fun x => (fun (x : { x : (Nat) // (x) ≤ i }) => [Z.cl b1 33 [vp, vl], OC vp xq, OB vl xq]) x ++ Fr) (fun (x : { x : (Nat) // (x) ≤ i }) => i - (x.1)) ⟨(0), by omega⟩ (fun x => ?_)
      obtain ⟨k, hinv2⟩ := x
      have hinv2' : k ≤ i := hinv2
      have hk := hinv2'
      show Z.J _ _ _ ([(1, .pointer (some ⟨b1, 0, none⟩)), (3, .int .i64 (evN xq.ps i : Nat)), (4, .int .i64 (i : Nat)), (5, .bool (decide (xq.pa i ∉ xq.ps.take k))), (6, .int .i64 (k : Nat))]) ([Z.cl b1 33 [vp, vl], OC vp xq, OB vl xq] ++ Fr) _
      refine Z.j_app (by repeat (first | exact Z.App.nil | apply Z.App.cons)) ?_
      refine Z.j_seq ?_
      refine Z.j_seq ?_
      refine Z.j_region ?_
      refine Z.s_val (Z.pv_move rfl) ?_
      refine Z.s_val (Z.pv_move rfl) ?_
      refine Z.s_val (Z.pv_lss rfl rfl) ?_
      refine Z.j_nil ?_
      refine Z.j_then ?_
      refine Z.j_cond rfl (fun hc16 => ?_) (fun hc16 => ?_)
      · try (with_reducible first | replace hc16 := of_decide_eq_true hc16 | replace hc16 := of_decide_eq_false hc16 | replace hc16 := Z.nd_true hc16 | replace hc16 := Z.nd_false hc16 | replace hc16 := Z.nn_true hc16 | replace hc16 := Z.nn_false hc16 | replace hc16 := Z.nb_true hc16 | replace hc16 := Z.nb_false hc16)
        first
        | (exfalso; first | (cases hc16; done) | omega)
        | skip
          refine Z.j_skip ?_
          refine Z.j_then ?_
          refine Z.j_seq ?_
          refine Z.j_block ?_
          refine Z.j_seq ?_
          refine Z.j_unown (T := 36) (k := 2) (v := vp) (m := xq.ps.length) (c := xq.ps.flatMap Cell.c) (by repeat (first | exact Z.Take.here | apply Z.Take.there)) (fun e1 e2 e3 => by exfalso; omega) (fun nb cap sp e1 e2 e3 => ?_)
          refine Z.j_draw (vals := [_, _, _, _, _, _, _, _, _, _, _]) 11 (by kernel_rfl) (by kernel_rfl) rfl (by rfl) (Z.heads_cons (Z.hq_val (Z.pv_fieldAddr (o' := 0) (by rfl) Try.underlying33 (by rfl) (by exact Try.sizeOf30) (by rfl))) (Z.heads_cons (Z.hq_val (Z.pv_load1 (by rfl) (by repeat (first | with_reducible exact Z.Take.here | apply Z.Take.there)) Try.isAgg30 (by rfl))) (Z.heads_cons (Z.hq_val (Z.pv_move (by rfl))) (Z.heads_cons (Z.hq_val (Z.pv_indexAddr (o' := k * 2) (b := nb) (o := 0) (len := xq.ps.length) (cap := cap) (by show some vp = _; rw [e1]) (by rfl) Try.underlying30 (by exact Try.sizeOf36) (by omega) (by simp))) (Z.heads_cons (Z.hq_val (Z.pv_loadA (by rfl) (by repeat (first | with_reducible exact Z.Take.here | apply Z.Take.there)) Try.isAgg36 (by exact Try.sizeOf36) (slc_ps (i := k) sp (by omega)))) (Z.heads_cons (Z.hq_val (Z.pv_fieldAddr (o' := 0) (by rfl) Try.underlying33 (by rfl) (by exact Try.sizeOf30) (by rfl))) (Z.heads_cons (Z.hq_val (Z.pv_load1 (by rfl) (by repeat (first | with_reducible exact Z.Take.here | apply Z.Take.there)) Try.isAgg30 (by rfl))) (Z.heads_cons (Z.hq_val (Z.pv_move (by rfl))) (Z.heads_cons (Z.hq_val (Z.pv_indexAddr (o' := i * 2) (b := nb) (o := 0) (len := xq.ps.length) (cap := cap) (by show some vp = _; rw [e1]) (by rfl) Try.underlying30 (by exact Try.sizeOf36) (by omega) (by simp))) (Z.heads_cons (Z.hq_val (Z.pv_loadA (by rfl) (by repeat (first | with_reducible exact Z.Take.here | apply Z.Take.there)) Try.isAgg36 (by exact Try.sizeOf36) (slc_ps (i := i) sp (by omega)))) (Z.heads_cons (Z.hq_val (Z.pv_eqA (by rfl) (by rfl) Try.eqGuardType36 Try.underlying36 Try.stoodInHeld36 (cells_eq _ _ ⟨_, _⟩) (by rfl))) Z.heads_nil))))))))))) ?_
          refine Z.j_nil ?_
          refine Z.j_then ?_
          refine Z.j_cond rfl (fun hc29 => ?_) (fun hc29 => ?_)
          · try (with_reducible first | replace hc29 := of_decide_eq_true hc29 | replace hc29 := of_decide_eq_false hc29 | replace hc29 := Z.nd_true hc29 | replace hc29 := Z.nd_false hc29 | replace hc29 := Z.nn_true hc29 | replace hc29 := Z.nn_false hc29 | replace hc29 := Z.nb_true hc29 | replace hc29 := Z.nb_false hc29)
            first
            | (exfalso; first | (cases hc29; done) | omega)
            | skip
              refine Z.j_region ?_
              refine Z.s_val (Z.pv_assign rfl) ?_
              refine Z.j_nil ?_
              refine Z.j_blk ?_
              refine Z.j_then ?_
              refine Z.j_region ?_
              refine Z.s_val (Z.pv_move rfl) ?_
              refine Z.s_val (Z.pv_add rfl rfl (by first | exact IntWalk.i64_in _ (by omega) | rfl)) ?_
              refine Z.s_val (Z.pv_assign rfl) ?_
              refine Z.j_nil ?_
              refine Z.j_then ?_
              refine Z.j_own (T := 36) (k := 2) (m := xq.ps.length) (cap := cap) (c := xq.ps.flatMap Cell.c) (sp := sp) (by repeat (first | with_reducible exact Z.Take.here | apply Z.Take.there)) e2 e3 ?_
              rw [← e1]
              first
              | (refine Z.s_is 5 rfl (show _ = Value.bool (decide (xq.pa i ∉ xq.ps.take (k + 1))) from by rw [take_t (by omega) hc29]) ?_)
              | (refine Z.s_is 5 rfl (show _ = Value.bool (decide (xq.pa i ∉ xq.ps.take (k + 1))) from by rw [take_f (by omega) hc29]) ?_)
              (refine Z.j_nextG (X := { x : (Nat) // (x) ≤ i }) (EE := (fun (x : { x : (Nat) // (x) ≤ i }) => [(1, .pointer (some ⟨b1, 0, none⟩)), (3, .int .i64 (evN xq.ps i : Nat)), (4, .int .i64 (i : Nat)), (5, .bool (decide (xq.pa i ∉ xq.ps.take (x.1)))), (6, .int .i64 ((x.1) : Nat))])) (LL := (fun (x : { x : (Nat) // (x) ≤ i }) => [Z.cl b1 33 [vp, vl], OC vp xq, OB vl xq])) (μ := (fun (x : { x : (Nat) // (x) ≤ i }) => i - (x.1))) (x := ⟨(k), hinv2⟩) ⟨(k + 1), by omega⟩ ?_ ?_ ?_; (show i - (k + 1) < i - k; omega); (exact (by repeat (first | exact trivial | refine ⟨rfl, ?_⟩))); (exact Z.st_td (by repeat (first | with_reducible exact Z.Takes.nil | (apply Z.Takes.cons; (repeat (first | with_reducible exact Z.Take.here | apply Z.Take.there))))) (by repeat (first | with_reducible exact Z.Drop.nil | apply Z.Drop.cons))))
          · try (with_reducible first | replace hc29 := of_decide_eq_true hc29 | replace hc29 := of_decide_eq_false hc29 | replace hc29 := Z.nd_true hc29 | replace hc29 := Z.nd_false hc29 | replace hc29 := Z.nn_true hc29 | replace hc29 := Z.nn_false hc29 | replace hc29 := Z.nb_true hc29 | replace hc29 := Z.nb_false hc29)
            first
            | (exfalso; first | (cases hc29; done) | omega)
            | skip
              refine Z.j_skip ?_
              refine Z.j_blk ?_
              refine Z.j_then ?_
              refine Z.j_region ?_
              refine Z.s_val (Z.pv_move rfl) ?_
              refine Z.s_val (Z.pv_add rfl rfl (by first | exact IntWalk.i64_in _ (by omega) | rfl)) ?_
              refine Z.s_val (Z.pv_assign rfl) ?_
              refine Z.j_nil ?_
              refine Z.j_then ?_
              refine Z.j_own (T := 36) (k := 2) (m := xq.ps.length) (cap := cap) (c := xq.ps.flatMap Cell.c) (sp := sp) (by repeat (first | with_reducible exact Z.Take.here | apply Z.Take.there)) e2 e3 ?_
              rw [← e1]
              first
              | (refine Z.s_is 5 rfl (show _ = Value.bool (decide (xq.pa i ∉ xq.ps.take (k + 1))) from by rw [take_t (by omega) hc29]) ?_)
              | (refine Z.s_is 5 rfl (show _ = Value.bool (decide (xq.pa i ∉ xq.ps.take (k + 1))) from by rw [take_f (by omega) hc29]) ?_)
              (refine Z.j_nextG (X := { x : (Nat) // (x) ≤ i }) (EE := (fun (x : { x : (Nat) // (x) ≤ i }) => [(1, .pointer (some ⟨b1, 0, none⟩)), (3, .int .i64 (evN xq.ps i : Nat)), (4, .int .i64 (i : Nat)), (5, .bool (decide (xq.pa i ∉ xq.ps.take (x.1)))), (6, .int .i64 ((x.1) : Nat))])) (LL := (fun (x : { x : (Nat) // (x) ≤ i }) => [Z.cl b1 33 [vp, vl], OC vp xq, OB vl xq])) (μ := (fun (x : { x : (Nat) // (x) ≤ i }) => i - (x.1))) (x := ⟨(k), hinv2⟩) ⟨(k + 1), by omega⟩ ?_ ?_ ?_; (show i - (k + 1) < i - k; omega); (exact (by repeat (first | exact trivial | refine ⟨rfl, ?_⟩))); (exact Z.st_td (by repeat (first | with_reducible exact Z.Takes.nil | (apply Z.Takes.cons; (repeat (first | with_reducible exact Z.Take.here | apply Z.Take.there))))) (by repeat (first | with_reducible exact Z.Drop.nil | apply Z.Drop.cons))))
      · try (with_reducible first | replace hc16 := of_decide_eq_true hc16 | replace hc16 := of_decide_eq_false hc16 | replace hc16 := Z.nd_true hc16 | replace hc16 := Z.nd_false hc16 | replace hc16 := Z.nn_true hc16 | replace hc16 := Z.nn_false hc16 | replace hc16 := Z.nb_true hc16 | replace hc16 := Z.nb_false hc16)
        first
        | (exfalso; first | (cases hc16; done) | omega)
        | skip
          refine Z.j_exit ?_
          refine Z.j_then_exit ?_
          refine Z.j_then_exit ?_
          refine Z.j_blk_here rfl ?_
          refine Z.j_then ?_
          refine Z.j_seq ?_
          have hke : i = k := by omega
          subst hke
          refine Z.j_region ?_
          refine Z.s_val (Z.pv_move rfl) ?_
          refine Z.j_nil ?_
          refine Z.j_then ?_
          refine Z.j_cond rfl (fun hc30 => ?_) (fun hc30 => ?_)
          · try (with_reducible first | replace hc30 := of_decide_eq_true hc30 | replace hc30 := of_decide_eq_false hc30 | replace hc30 := Z.nd_true hc30 | replace hc30 := Z.nd_false hc30 | replace hc30 := Z.nn_true hc30 | replace hc30 := Z.nn_false hc30 | replace hc30 := Z.nb_true hc30 | replace hc30 := Z.nb_false hc30)
            first
            | (exfalso; first | (cases hc30; done) | omega)
            | skip
              refine Z.j_region ?_
              refine Z.s_val (Z.pv_move rfl) ?_
              refine Z.s_val (Z.pv_add rfl rfl (by first | exact IntWalk.i64_in _ (by omega) | rfl)) ?_
              refine Z.s_val (Z.pv_assign rfl) ?_
              refine Z.j_nil ?_
              refine Z.j_blk ?_
              refine Z.j_then ?_
              refine Z.j_region ?_
              refine Z.s_val (Z.pv_move rfl) ?_
              refine Z.s_val (Z.pv_add rfl rfl (by first | exact IntWalk.i64_in _ (by omega) | rfl)) ?_
              refine Z.s_val (Z.pv_assign rfl) ?_
              refine Z.j_nil ?_
              refine Z.j_then ?_
              first
              | (refine Z.s_is 3 rfl (show _ = Value.int .i64 (evN xq.ps (i + 1) : Nat) from by rw [hsu, if_pos (show fstB xq.ps i = true from decide_eq_true hc30)]; rfl) ?_)
              | (refine Z.s_is 3 rfl (show _ = Value.int .i64 (evN xq.ps (i + 1) : Nat) from by rw [hsu, if_neg (show ¬ fstB xq.ps i = true from fun h => hc30 (of_decide_eq_true h))]; rfl) ?_)
              (refine Z.j_nextG (X := { x : (Nat) // (x) ≤ xq.ps.length }) (EE := (fun (x : { x : (Nat) // (x) ≤ xq.ps.length }) => [(1, .pointer (some ⟨b1, 0, none⟩)), (3, .int .i64 (evN xq.ps (x.1) : Nat)), (4, .int .i64 ((x.1) : Nat))])) (LL := (fun (x : { x : (Nat) // (x) ≤ xq.ps.length }) => [Z.cl b1 33 [vp, vl], OC vp xq, OB vl xq])) (μ := (fun (x : { x : (Nat) // (x) ≤ xq.ps.length }) => xq.ps.length - (x.1))) (x := ⟨(i), hinv⟩) ⟨(i + 1), by omega⟩ ?_ ?_ ?_; (show xq.ps.length - (i + 1) < xq.ps.length - i; omega); (exact (by repeat (first | exact trivial | refine ⟨rfl, ?_⟩))); (exact Z.st_td (by repeat (first | with_reducible exact Z.Takes.nil | (apply Z.Takes.cons; (repeat (first | with_reducible exact Z.Take.here | apply Z.Take.there))))) (by repeat (first | with_reducible exact Z.Drop.nil | apply Z.Drop.cons))))
          · try (with_reducible first | replace hc30 := of_decide_eq_true hc30 | replace hc30 := of_decide_eq_false hc30 | replace hc30 := Z.nd_true hc30 | replace hc30 := Z.nd_false hc30 | replace hc30 := Z.nn_true hc30 | replace hc30 := Z.nn_false hc30 | replace hc30 := Z.nb_true hc30 | replace hc30 := Z.nb_false hc30)
            first
            | (exfalso; first | (cases hc30; done) | omega)
            | skip
              refine Z.j_skip ?_
              refine Z.j_blk ?_
              refine Z.j_then ?_
              refine Z.j_region ?_
              refine Z.s_val (Z.pv_move rfl) ?_
              refine Z.s_val (Z.pv_add rfl rfl (by first | exact IntWalk.i64_in _ (by omega) | rfl)) ?_
              refine Z.s_val (Z.pv_assign rfl) ?_
              refine Z.j_nil ?_
              refine Z.j_then ?_
              first
              | (refine Z.s_is 3 rfl (show _ = Value.int .i64 (evN xq.ps (i + 1) : Nat) from by rw [hsu, if_pos (show fstB xq.ps i = true from decide_eq_true hc30)]; rfl) ?_)
              | (refine Z.s_is 3 rfl (show _ = Value.int .i64 (evN xq.ps (i + 1) : Nat) from by rw [hsu, if_neg (show ¬ fstB xq.ps i = true from fun h => hc30 (of_decide_eq_true h))]; rfl) ?_)
              (refine Z.j_nextG (X := { x : (Nat) // (x) ≤ xq.ps.length }) (EE := (fun (x : { x : (Nat) // (x) ≤ xq.ps.length }) => [(1, .pointer (some ⟨b1, 0, none⟩)), (3, .int .i64 (evN xq.ps (x.1) : Nat)), (4, .int .i64 ((x.1) : Nat))])) (LL := (fun (x : { x : (Nat) // (x) ≤ xq.ps.length }) => [Z.cl b1 33 [vp, vl], OC vp xq, OB vl xq])) (μ := (fun (x : { x : (Nat) // (x) ≤ xq.ps.length }) => xq.ps.length - (x.1))) (x := ⟨(i), hinv⟩) ⟨(i + 1), by omega⟩ ?_ ?_ ?_; (show xq.ps.length - (i + 1) < xq.ps.length - i; omega); (exact (by repeat (first | exact trivial | refine ⟨rfl, ?_⟩))); (exact Z.st_td (by repeat (first | with_reducible exact Z.Takes.nil | (apply Z.Takes.cons; (repeat (first | with_reducible exact Z.Take.here | apply Z.Take.there))))) (by repeat (first | with_reducible exact Z.Drop.nil | apply Z.Drop.cons))))
  · try (with_reducible first | replace hc11 := of_decide_eq_true hc11 | replace hc11 := of_decide_eq_false hc11 | replace hc11 := Z.nd_true hc11 | replace hc11 := Z.nd_false hc11 | replace hc11 := Z.nn_true hc11 | replace hc11 := Z.nn_false hc11 | replace hc11 := Z.nb_true hc11 | replace hc11 := Z.nb_false hc11)
    first
    | (exfalso; first | (cases hc11; done) | omega)
    | skip
      have hin : i = xq.ps.length := by omega
      refine Z.j_exit ?_
      refine Z.j_then_exit ?_
      refine Z.j_then_exit ?_
      refine Z.j_blk_here rfl ?_
      refine Z.j_then ?_
      refine Z.j_seq ?_
      refine Z.j_region ?_
      refine Z.s_val (Z.pv_move rfl) ?_
      refine Z.s_val (Z.pv_assign rfl) ?_
      refine Z.j_nil ?_
      refine Z.j_then ?_
      refine Z.j_ret ?_
      refine Z.j_done_ret (Z.rv1 (Z.rv_tmp (t := 2) rfl)) ?_
      exact Z.post_of ⟨by rw [hR.ever, hin], rfl⟩ (by repeat (first | with_reducible exact Z.Takes.nil | (apply Z.Takes.cons; (repeat (first | with_reducible exact Z.Take.here | apply Z.Take.there))))) (by repeat (first | with_reducible exact Z.Drop.nil | apply Z.Drop.cons))

set_option maxHeartbeats 4000000 in
set_option maxRecDepth 100000 in
theorem xin_spec (w0 : World) (vp vl : Value) (r : RSt) (xq : XSt) (hR : Rel r xq) (h60 : xq.ps.length ≤ 60) (hok : r.ok) (v : Value) (a : Area) (hA : AreaRo w0 v a) (hao : AreaOk a) : Z.Fn Try.prog w0 23 [.agg #[vp, vl], v] [OC vp xq, OB vl xq] (fun u Q => Q = [OC vp xq, OB vl xq, Z.Own 3 1 u (inA r.ver a).length (i64s (inA r.ver a))]) := by
  refine Z.fn_enter (n := 35) Try.func23 rfl (by rfl) (by rfl) (fun Fr => ?_)
  refine Z.j_app (by repeat (first | exact Z.App.nil | apply Z.App.cons)) ?_
  refine Z.j_seq ?_
  refine Z.j_region ?_
  refine Z.s_box rfl (fun b2 => ?_)
  refine Z.s_val (Z.pv_assign rfl) ?_
  refine Z.j_nil ?_
  refine Z.j_then ?_
  refine Z.j_seq ?_
  refine Z.j_region ?_
  refine Z.s_buildSlice rfl Try.underlying48 Try.zeroValue3 Try.sizeOf3 rfl rfl rfl rfl (fun b7 => ?_)
  refine Z.s_val (Z.pv_assign rfl) ?_
  refine Z.j_nil ?_
  refine Z.j_then ?_
  refine Z.j_seq ?_
  refine Z.j_seq ?_
  refine Z.J.own_mk (T := 3) (k := 1) (m := 0) (b := b7) (c := []) (by repeat (first | with_reducible exact Z.Take.here | apply Z.Take.there)) rfl ?_
  refine Z.j_cast (A := Z.Own 3 1 (.slice (some ⟨b7, 0, none⟩) 0 0) 0 []) (B := Z.Own 3 1 (.slice (some ⟨b7, 0, none⟩) 0 0) (inX xq a 0).length (i64s (inX xq a 0))) (by repeat (first | with_reducible exact Z.Take.here | apply Z.Take.there)) rfl ?_
  refine Z.j_region ?_
  refine Z.s_val (Z.pv_assign rfl) ?_
  refine Z.j_nil ?_
  refine Z.j_then ?_
  refine Z.j_block ?_
  refine Z.j_initF (E' := [(1, v), (2, .pointer (some ⟨b2, 0, none⟩)), (5, (.slice (some ⟨b7, 0, none⟩) 0 0)), (6, .int .i64 ((0) : Nat))]) (As := [Z.cl b2 33 [vp, vl], OC vp xq, OB vl xq, Z.Own 3 1 (.slice (some ⟨b7, 0, none⟩) 0 0) (inX xq a (0)).length (i64s (inX xq a (0)))]) (Fr := Fr) (by repeat (first | exact trivial | refine ⟨rfl, ?_⟩)) (by repeat (first | with_reducible exact Z.Takes.nil | (apply Z.Takes.cons; (repeat (first | with_reducible exact Z.Take.here | apply Z.Take.there))))) (by repeat (first | with_reducible exact Z.Drop.nil | apply Z.Drop.cons)) ?_
  refine Z.j_loop (X := { x : (Nat) × (Value) // (x.1) ≤ xq.ps.length }) (fun (x : { x : (Nat) × (Value) // (x.1) ≤ xq.ps.length }) => [(1, v), (2, .pointer (some ⟨b2, 0, none⟩)), (5, (x.1.2)), (6, .int .i64 ((x.1.1) : Nat))]) (fun x => (fun (x : { x : (Nat) × (Value) // (x.1) ≤ xq.ps.length }) => [Z.cl b2 33 [vp, vl], OC vp xq, OB vl xq, Z.Own 3 1 (x.1.2) (inX xq a (x.1.1)).length (i64s (inX xq a (x.1.1)))]) x ++ Fr) (fun (x : { x : (Nat) × (Value) // (x.1) ≤ xq.ps.length }) => xq.ps.length - (x.1.1)) ⟨(0, .slice (some ⟨b7, 0, none⟩) 0 0), by omega⟩ (fun x => ?_)
  obtain ⟨⟨i, vo⟩, hinv⟩ := x
  have hinv' : i ≤ xq.ps.length := hinv
  have hi := hinv'
  show Z.J _ _ _ ([(1, v), (2, .pointer (some ⟨b2, 0, none⟩)), (5, vo), (6, .int .i64 (i : Nat))]) ([Z.cl b2 33 [vp, vl], OC vp xq, OB vl xq, Z.Own 3 1 vo (inX xq a i).length (i64s (inX xq a i))] ++ Fr) _
  refine Z.j_app (by repeat (first | exact Z.App.nil | apply Z.App.cons)) ?_
  refine Z.j_seq ?_
  refine Z.j_seq ?_
  refine Z.j_region ?_
  refine Z.s_val (Z.pv_move rfl) ?_
  refine Z.s_val (Z.pv_fieldAddr (o' := 0) rfl Try.underlying33 rfl Try.sizeOf30 rfl) ?_
  refine Z.s_val (Z.pv_load1 rfl (by repeat (first | with_reducible exact Z.Take.here | apply Z.Take.there)) Try.isAgg30 (by rfl)) ?_
  refine Z.s_val (Z.pv_lenO rfl (by repeat (first | with_reducible exact Z.Take.here | apply Z.Take.there)) Try.underlying30) ?_
  refine Z.s_val (Z.pv_lss rfl rfl) ?_
  refine Z.j_nil ?_
  refine Z.j_then ?_
  refine Z.j_cond rfl (fun hc12 => ?_) (fun hc12 => ?_)
  · try (with_reducible first | replace hc12 := of_decide_eq_true hc12 | replace hc12 := of_decide_eq_false hc12 | replace hc12 := Z.nd_true hc12 | replace hc12 := Z.nd_false hc12 | replace hc12 := Z.nn_true hc12 | replace hc12 := Z.nn_false hc12 | replace hc12 := Z.nb_true hc12 | replace hc12 := Z.nb_false hc12)
    first
    | (exfalso; first | (cases hc12; done) | omega)
    | skip
      refine Z.j_skip ?_
      refine Z.j_then ?_
      refine Z.j_seq ?_
      refine Z.j_block ?_
      refine Z.j_seq ?_
      have hle := inX_le xq a i
      have hsu := inX_succ xq a i
      refine Z.j_unown (T := 36) (k := 2) (v := vp) (m := xq.ps.length) (c := xq.ps.flatMap Cell.c) (by repeat (first | exact Z.Take.here | apply Z.Take.there)) (fun e1 e2 e3 => by exfalso; omega) (fun nb cap sp e1 e2 e3 => ?_)
      refine Z.j_unown (T := 4) (k := 1) (v := vl) (m := xq.ps.length) (c := bls xq) (by repeat (first | exact Z.Take.here | apply Z.Take.there)) (fun f1 f2 f3 => by exfalso; omega) (fun nb2 cap2 sp2 f1 f2 f3 => ?_)
      refine Z.j_region ?_
      refine Z.s_val (Z.pv_fieldAddr (o' := 1) rfl Try.underlying33 rfl Try.sizeOf31 rfl) ?_
      refine Z.s_val (Z.pv_load1 rfl (by repeat (first | with_reducible exact Z.Take.here | apply Z.Take.there)) Try.isAgg31 (by rfl)) ?_
      refine Z.s_val (Z.pv_move rfl) ?_
      refine Z.s_val (Z.pv_indexAddr (o' := i) (b := nb2) (o := 0) (len := xq.ps.length) (cap := cap2) (by show some vl = _; rw [f1]) rfl Try.underlying31 Try.sizeOf4 (by omega) (by simp)) ?_
      refine Z.s_val (Z.pv_load1 (v := .bool (decide (xq.la i = true))) rfl (by repeat (first | with_reducible exact Z.Take.here | apply Z.Take.there)) Try.isAgg4 (get_ls hR.len sp2 (by omega))) ?_
      refine Z.s_val (Z.pv_move rfl) ?_
      refine Z.s_split 20 rfl (fun hg20 => ?_) (fun hg20 => ?_)
      · try (with_reducible first | replace hg20 := of_decide_eq_true hg20 | replace hg20 := of_decide_eq_false hg20 | replace hg20 := Z.nd_true hg20 | replace hg20 := Z.nd_false hg20 | replace hg20 := Z.nn_true hg20 | replace hg20 := Z.nn_false hg20 | replace hg20 := Z.nb_true hg20 | replace hg20 := Z.nb_false hg20)
        first
        | (exfalso; first | (cases hg20; done) | omega)
        | skip
          refine Z.s_val (Z.pv_move rfl) ?_
          refine Z.s_val (Z.pv_fieldAddr (o' := 0) rfl Try.underlying33 rfl Try.sizeOf30 rfl) ?_
          refine Z.s_val (Z.pv_load1 rfl (by repeat (first | with_reducible exact Z.Take.here | apply Z.Take.there)) Try.isAgg30 (by rfl)) ?_
          refine Z.s_val (Z.pv_move rfl) ?_
          refine Z.s_val (Z.pv_indexAddr (o' := i * 2) (b := nb) (o := 0) (len := xq.ps.length) (cap := cap) (by show some vp = _; rw [e1]) rfl Try.underlying30 Try.sizeOf36 (by omega) (by simp)) ?_
          refine Z.s_val (Z.pv_loadA rfl (by repeat (first | with_reducible exact Z.Take.here | apply Z.Take.there)) Try.isAgg36 Try.sizeOf36 (slc_ps (i := i) sp (by omega))) ?_
          refine Z.s_callD rfl rfl rfl isFn24 (by repeat (first | with_reducible exact Z.Takes.nil | (apply Z.Takes.cons; (repeat (first | with_reducible exact Z.Take.here | apply Z.Take.there))))) (by repeat (first | exact Z.App.nil | apply Z.App.cons)) (has7_spec _ v a hA hao _ _ (hR.kb _ (pa_mem (by omega)))) ?_
          refine Z.s_val (Z.pv_pick rfl rfl) ?_
          refine Z.j_nil ?_
          refine Z.j_then ?_
          refine Z.j_cond rfl (fun hc28 => ?_) (fun hc28 => ?_)
          · try (with_reducible first | replace hc28 := of_decide_eq_true hc28 | replace hc28 := of_decide_eq_false hc28 | replace hc28 := Z.nd_true hc28 | replace hc28 := Z.nd_false hc28 | replace hc28 := Z.nn_true hc28 | replace hc28 := Z.nn_false hc28 | replace hc28 := Z.nb_true hc28 | replace hc28 := Z.nb_false hc28)
            first
            | (exfalso; first | (cases hc28; done) | omega)
            | skip
              refine Z.j_region ?_
              refine Z.s_val (Z.pv_move rfl) ?_
              refine Z.s_val (Z.pv_move rfl) ?_
              refine Z.s_val (Z.pv_add rfl rfl (by first | exact IntWalk.i64_in _ (by omega) | rfl)) ?_
              refine Z.s_buildSlice rfl Try.underlying48 Try.zeroValue3 Try.sizeOf3 rfl rfl rfl rfl (fun b32 => ?_)
              refine Z.s_append (k := 1) (by' := 8) rfl rfl (by repeat (first | with_reducible exact Z.Take.here | apply Z.Take.there)) (Z.reads_cl (by repeat (first | with_reducible exact Z.Take.here | apply Z.Take.there)) (k := 1) (by rfl)) Try.underlying48 Try.typeInfo3 rfl rfl rfl rfl rfl rfl (.inl (by omega)) (by omega) (by omega) (fun v33 hv33 => ?_)
              refine Z.s_val (Z.pv_assign rfl) ?_
              refine Z.j_nil ?_
              refine Z.j_blk ?_
              refine Z.j_then ?_
              refine Z.j_region ?_
              refine Z.s_val (Z.pv_move rfl) ?_
              refine Z.s_val (Z.pv_add rfl rfl (by first | exact IntWalk.i64_in _ (by omega) | rfl)) ?_
              refine Z.s_val (Z.pv_assign rfl) ?_
              refine Z.j_nil ?_
              refine Z.j_then ?_
              refine Z.j_own (T := 36) (k := 2) (m := xq.ps.length) (cap := cap) (c := xq.ps.flatMap Cell.c) (sp := sp) (by repeat (first | with_reducible exact Z.Take.here | apply Z.Take.there)) e2 e3 ?_
              rw [← e1]
              refine Z.j_own (T := 4) (k := 1) (m := xq.ps.length) (cap := cap2) (c := bls xq) (sp := sp2) (by repeat (first | with_reducible exact Z.Take.here | apply Z.Take.there)) f2 f3 ?_
              rw [← f1]
              first
              | (refine Z.j_cast (A := Z.Own 3 1 v33 ((inX xq a i).length + 1) (i64s (inX xq a i) ++ [.int .i64 ((i : Int) + 1)])) (B := Z.Own 3 1 v33 (inX xq a (i + 1)).length (i64s (inX xq a (i + 1)))) (by repeat (first | with_reducible exact Z.Take.here | apply Z.Take.there)) (by rw [hsu, if_pos (by rw [hg20, show hasA a (xq.pa i) = true from hc28]; rfl)]; simp) ?_)
              | (refine Z.j_cast (A := Z.Own 3 1 vo (inX xq a i).length (i64s (inX xq a i))) (B := Z.Own 3 1 vo (inX xq a (i + 1)).length (i64s (inX xq a (i + 1)))) (by repeat (first | with_reducible exact Z.Take.here | apply Z.Take.there)) (by rw [hsu, if_neg (by first | (rw [show hasA a (xq.pa i) = false from hc28]; simp) | (rw [show xq.la i = false from by simpa using hg20]; simp)), List.append_nil]) ?_)
              first | (refine Z.j_nextG (X := { x : (Nat) × (Value) // (x.1) ≤ xq.ps.length }) (EE := (fun (x : { x : (Nat) × (Value) // (x.1) ≤ xq.ps.length }) => [(1, v), (2, .pointer (some ⟨b2, 0, none⟩)), (5, (x.1.2)), (6, .int .i64 ((x.1.1) : Nat))])) (LL := (fun (x : { x : (Nat) × (Value) // (x.1) ≤ xq.ps.length }) => [Z.cl b2 33 [vp, vl], OC vp xq, OB vl xq, Z.Own 3 1 (x.1.2) (inX xq a (x.1.1)).length (i64s (inX xq a (x.1.1)))])) (μ := (fun (x : { x : (Nat) × (Value) // (x.1) ≤ xq.ps.length }) => xq.ps.length - (x.1.1))) (x := ⟨(i, vo), hinv⟩) ⟨(i + 1, v33), by omega⟩ ?_ ?_ ?_; (show xq.ps.length - (i + 1) < xq.ps.length - i; omega); (exact (by repeat (first | exact trivial | refine ⟨rfl, ?_⟩))); (exact Z.st_td (by repeat (first | with_reducible exact Z.Takes.nil | (apply Z.Takes.cons; (repeat (first | with_reducible exact Z.Take.here | apply Z.Take.there))))) (by repeat (first | with_reducible exact Z.Drop.nil | apply Z.Drop.cons)))) | (refine Z.j_nextG (X := { x : (Nat) × (Value) // (x.1) ≤ xq.ps.length }) (EE := (fun (x : { x : (Nat) × (Value) // (x.1) ≤ xq.ps.length }) => [(1, v), (2, .pointer (some ⟨b2, 0, none⟩)), (5, (x.1.2)), (6, .int .i64 ((x.1.1) : Nat))])) (LL := (fun (x : { x : (Nat) × (Value) // (x.1) ≤ xq.ps.length }) => [Z.cl b2 33 [vp, vl], OC vp xq, OB vl xq, Z.Own 3 1 (x.1.2) (inX xq a (x.1.1)).length (i64s (inX xq a (x.1.1)))])) (μ := (fun (x : { x : (Nat) × (Value) // (x.1) ≤ xq.ps.length }) => xq.ps.length - (x.1.1))) (x := ⟨(i, vo), hinv⟩) ⟨(i + 1, vo), by omega⟩ ?_ ?_ ?_; (show xq.ps.length - (i + 1) < xq.ps.length - i; omega); (exact (by repeat (first | exact trivial | refine ⟨rfl, ?_⟩))); (exact Z.st_td (by repeat (first | with_reducible exact Z.Takes.nil | (apply Z.Takes.cons; (repeat (first | with_reducible exact Z.Take.here | apply Z.Take.there))))) (by repeat (first | with_reducible exact Z.Drop.nil | apply Z.Drop.cons))))
          · try (with_reducible first | replace hc28 := of_decide_eq_true hc28 | replace hc28 := of_decide_eq_false hc28 | replace hc28 := Z.nd_true hc28 | replace hc28 := Z.nd_false hc28 | replace hc28 := Z.nn_true hc28 | replace hc28 := Z.nn_false hc28 | replace hc28 := Z.nb_true hc28 | replace hc28 := Z.nb_false hc28)
            first
            | (exfalso; first | (cases hc28; done) | omega)
            | skip
              refine Z.j_skip ?_
              refine Z.j_blk ?_
              refine Z.j_then ?_
              refine Z.j_region ?_
              refine Z.s_val (Z.pv_move rfl) ?_
              refine Z.s_val (Z.pv_add rfl rfl (by first | exact IntWalk.i64_in _ (by omega) | rfl)) ?_
              refine Z.s_val (Z.pv_assign rfl) ?_
              refine Z.j_nil ?_
              refine Z.j_then ?_
              refine Z.j_own (T := 36) (k := 2) (m := xq.ps.length) (cap := cap) (c := xq.ps.flatMap Cell.c) (sp := sp) (by repeat (first | with_reducible exact Z.Take.here | apply Z.Take.there)) e2 e3 ?_
              rw [← e1]
              refine Z.j_own (T := 4) (k := 1) (m := xq.ps.length) (cap := cap2) (c := bls xq) (sp := sp2) (by repeat (first | with_reducible exact Z.Take.here | apply Z.Take.there)) f2 f3 ?_
              rw [← f1]
              first
              | (refine Z.j_cast (A := Z.Own 3 1 v33 ((inX xq a i).length + 1) (i64s (inX xq a i) ++ [.int .i64 ((i : Int) + 1)])) (B := Z.Own 3 1 v33 (inX xq a (i + 1)).length (i64s (inX xq a (i + 1)))) (by repeat (first | with_reducible exact Z.Take.here | apply Z.Take.there)) (by rw [hsu, if_pos (by rw [hg20, show hasA a (xq.pa i) = true from hc28]; rfl)]; simp) ?_)
              | (refine Z.j_cast (A := Z.Own 3 1 vo (inX xq a i).length (i64s (inX xq a i))) (B := Z.Own 3 1 vo (inX xq a (i + 1)).length (i64s (inX xq a (i + 1)))) (by repeat (first | with_reducible exact Z.Take.here | apply Z.Take.there)) (by rw [hsu, if_neg (by first | (rw [show hasA a (xq.pa i) = false from hc28]; simp) | (rw [show xq.la i = false from by simpa using hg20]; simp)), List.append_nil]) ?_)
              first | (refine Z.j_nextG (X := { x : (Nat) × (Value) // (x.1) ≤ xq.ps.length }) (EE := (fun (x : { x : (Nat) × (Value) // (x.1) ≤ xq.ps.length }) => [(1, v), (2, .pointer (some ⟨b2, 0, none⟩)), (5, (x.1.2)), (6, .int .i64 ((x.1.1) : Nat))])) (LL := (fun (x : { x : (Nat) × (Value) // (x.1) ≤ xq.ps.length }) => [Z.cl b2 33 [vp, vl], OC vp xq, OB vl xq, Z.Own 3 1 (x.1.2) (inX xq a (x.1.1)).length (i64s (inX xq a (x.1.1)))])) (μ := (fun (x : { x : (Nat) × (Value) // (x.1) ≤ xq.ps.length }) => xq.ps.length - (x.1.1))) (x := ⟨(i, vo), hinv⟩) ⟨(i + 1, v33), by omega⟩ ?_ ?_ ?_; (show xq.ps.length - (i + 1) < xq.ps.length - i; omega); (exact (by repeat (first | exact trivial | refine ⟨rfl, ?_⟩))); (exact Z.st_td (by repeat (first | with_reducible exact Z.Takes.nil | (apply Z.Takes.cons; (repeat (first | with_reducible exact Z.Take.here | apply Z.Take.there))))) (by repeat (first | with_reducible exact Z.Drop.nil | apply Z.Drop.cons)))) | (refine Z.j_nextG (X := { x : (Nat) × (Value) // (x.1) ≤ xq.ps.length }) (EE := (fun (x : { x : (Nat) × (Value) // (x.1) ≤ xq.ps.length }) => [(1, v), (2, .pointer (some ⟨b2, 0, none⟩)), (5, (x.1.2)), (6, .int .i64 ((x.1.1) : Nat))])) (LL := (fun (x : { x : (Nat) × (Value) // (x.1) ≤ xq.ps.length }) => [Z.cl b2 33 [vp, vl], OC vp xq, OB vl xq, Z.Own 3 1 (x.1.2) (inX xq a (x.1.1)).length (i64s (inX xq a (x.1.1)))])) (μ := (fun (x : { x : (Nat) × (Value) // (x.1) ≤ xq.ps.length }) => xq.ps.length - (x.1.1))) (x := ⟨(i, vo), hinv⟩) ⟨(i + 1, vo), by omega⟩ ?_ ?_ ?_; (show xq.ps.length - (i + 1) < xq.ps.length - i; omega); (exact (by repeat (first | exact trivial | refine ⟨rfl, ?_⟩))); (exact Z.st_td (by repeat (first | with_reducible exact Z.Takes.nil | (apply Z.Takes.cons; (repeat (first | with_reducible exact Z.Take.here | apply Z.Take.there))))) (by repeat (first | with_reducible exact Z.Drop.nil | apply Z.Drop.cons))))
      · try (with_reducible first | replace hg20 := of_decide_eq_true hg20 | replace hg20 := of_decide_eq_false hg20 | replace hg20 := Z.nd_true hg20 | replace hg20 := Z.nd_false hg20 | replace hg20 := Z.nn_true hg20 | replace hg20 := Z.nn_false hg20 | replace hg20 := Z.nb_true hg20 | replace hg20 := Z.nb_false hg20)
        first
        | (exfalso; first | (cases hg20; done) | omega)
        | skip
          refine Z.s_skip ?_
          refine Z.s_skip ?_
          refine Z.s_skip ?_
          refine Z.s_skip ?_
          refine Z.s_skip ?_
          refine Z.s_skip ?_
          refine Z.s_skip ?_
          refine Z.s_val (Z.pv_pick rfl rfl) ?_
          refine Z.j_nil ?_
          refine Z.j_then ?_
          refine Z.j_cond rfl (fun hc28 => ?_) (fun hc28 => ?_)
          · try (with_reducible first | replace hc28 := of_decide_eq_true hc28 | replace hc28 := of_decide_eq_false hc28 | replace hc28 := Z.nd_true hc28 | replace hc28 := Z.nd_false hc28 | replace hc28 := Z.nn_true hc28 | replace hc28 := Z.nn_false hc28 | replace hc28 := Z.nb_true hc28 | replace hc28 := Z.nb_false hc28)
            first
            | (exfalso; first | (cases hc28; done) | omega)
            | skip
              refine Z.j_region ?_
              refine Z.s_val (Z.pv_move rfl) ?_
              refine Z.s_val (Z.pv_move rfl) ?_
              refine Z.s_val (Z.pv_add rfl rfl (by first | exact IntWalk.i64_in _ (by omega) | rfl)) ?_
              refine Z.s_buildSlice rfl Try.underlying48 Try.zeroValue3 Try.sizeOf3 rfl rfl rfl rfl (fun b32 => ?_)
              refine Z.s_append (k := 1) (by' := 8) rfl rfl (by repeat (first | with_reducible exact Z.Take.here | apply Z.Take.there)) (Z.reads_cl (by repeat (first | with_reducible exact Z.Take.here | apply Z.Take.there)) (k := 1) (by rfl)) Try.underlying48 Try.typeInfo3 rfl rfl rfl rfl rfl rfl (.inl (by omega)) (by omega) (by omega) (fun v33 hv33 => ?_)
              refine Z.s_val (Z.pv_assign rfl) ?_
              refine Z.j_nil ?_
              refine Z.j_blk ?_
              refine Z.j_then ?_
              refine Z.j_region ?_
              refine Z.s_val (Z.pv_move rfl) ?_
              refine Z.s_val (Z.pv_add rfl rfl (by first | exact IntWalk.i64_in _ (by omega) | rfl)) ?_
              refine Z.s_val (Z.pv_assign rfl) ?_
              refine Z.j_nil ?_
              refine Z.j_then ?_
              refine Z.j_own (T := 36) (k := 2) (m := xq.ps.length) (cap := cap) (c := xq.ps.flatMap Cell.c) (sp := sp) (by repeat (first | with_reducible exact Z.Take.here | apply Z.Take.there)) e2 e3 ?_
              rw [← e1]
              refine Z.j_own (T := 4) (k := 1) (m := xq.ps.length) (cap := cap2) (c := bls xq) (sp := sp2) (by repeat (first | with_reducible exact Z.Take.here | apply Z.Take.there)) f2 f3 ?_
              rw [← f1]
              first
              | (refine Z.j_cast (A := Z.Own 3 1 v33 ((inX xq a i).length + 1) (i64s (inX xq a i) ++ [.int .i64 ((i : Int) + 1)])) (B := Z.Own 3 1 v33 (inX xq a (i + 1)).length (i64s (inX xq a (i + 1)))) (by repeat (first | with_reducible exact Z.Take.here | apply Z.Take.there)) (by rw [hsu, if_pos (by rw [hg20, show hasA a (xq.pa i) = true from hc28]; rfl)]; simp) ?_)
              | (refine Z.j_cast (A := Z.Own 3 1 vo (inX xq a i).length (i64s (inX xq a i))) (B := Z.Own 3 1 vo (inX xq a (i + 1)).length (i64s (inX xq a (i + 1)))) (by repeat (first | with_reducible exact Z.Take.here | apply Z.Take.there)) (by rw [hsu, if_neg (by first | (rw [show hasA a (xq.pa i) = false from hc28]; simp) | (rw [show xq.la i = false from by simpa using hg20]; simp)), List.append_nil]) ?_)
              first | (refine Z.j_nextG (X := { x : (Nat) × (Value) // (x.1) ≤ xq.ps.length }) (EE := (fun (x : { x : (Nat) × (Value) // (x.1) ≤ xq.ps.length }) => [(1, v), (2, .pointer (some ⟨b2, 0, none⟩)), (5, (x.1.2)), (6, .int .i64 ((x.1.1) : Nat))])) (LL := (fun (x : { x : (Nat) × (Value) // (x.1) ≤ xq.ps.length }) => [Z.cl b2 33 [vp, vl], OC vp xq, OB vl xq, Z.Own 3 1 (x.1.2) (inX xq a (x.1.1)).length (i64s (inX xq a (x.1.1)))])) (μ := (fun (x : { x : (Nat) × (Value) // (x.1) ≤ xq.ps.length }) => xq.ps.length - (x.1.1))) (x := ⟨(i, vo), hinv⟩) ⟨(i + 1, v33), by omega⟩ ?_ ?_ ?_; (show xq.ps.length - (i + 1) < xq.ps.length - i; omega); (exact (by repeat (first | exact trivial | refine ⟨rfl, ?_⟩))); (exact Z.st_td (by repeat (first | with_reducible exact Z.Takes.nil | (apply Z.Takes.cons; (repeat (first | with_reducible exact Z.Take.here | apply Z.Take.there))))) (by repeat (first | with_reducible exact Z.Drop.nil | apply Z.Drop.cons)))) | (refine Z.j_nextG (X := { x : (Nat) × (Value) // (x.1) ≤ xq.ps.length }) (EE := (fun (x : { x : (Nat) × (Value) // (x.1) ≤ xq.ps.length }) => [(1, v), (2, .pointer (some ⟨b2, 0, none⟩)), (5, (x.1.2)), (6, .int .i64 ((x.1.1) : Nat))])) (LL := (fun (x : { x : (Nat) × (Value) // (x.1) ≤ xq.ps.length }) => [Z.cl b2 33 [vp, vl], OC vp xq, OB vl xq, Z.Own 3 1 (x.1.2) (inX xq a (x.1.1)).length (i64s (inX xq a (x.1.1)))])) (μ := (fun (x : { x : (Nat) × (Value) // (x.1) ≤ xq.ps.length }) => xq.ps.length - (x.1.1))) (x := ⟨(i, vo), hinv⟩) ⟨(i + 1, vo), by omega⟩ ?_ ?_ ?_; (show xq.ps.length - (i + 1) < xq.ps.length - i; omega); (exact (by repeat (first | exact trivial | refine ⟨rfl, ?_⟩))); (exact Z.st_td (by repeat (first | with_reducible exact Z.Takes.nil | (apply Z.Takes.cons; (repeat (first | with_reducible exact Z.Take.here | apply Z.Take.there))))) (by repeat (first | with_reducible exact Z.Drop.nil | apply Z.Drop.cons))))
          · try (with_reducible first | replace hc28 := of_decide_eq_true hc28 | replace hc28 := of_decide_eq_false hc28 | replace hc28 := Z.nd_true hc28 | replace hc28 := Z.nd_false hc28 | replace hc28 := Z.nn_true hc28 | replace hc28 := Z.nn_false hc28 | replace hc28 := Z.nb_true hc28 | replace hc28 := Z.nb_false hc28)
            first
            | (exfalso; first | (cases hc28; done) | omega)
            | skip
              refine Z.j_skip ?_
              refine Z.j_blk ?_
              refine Z.j_then ?_
              refine Z.j_region ?_
              refine Z.s_val (Z.pv_move rfl) ?_
              refine Z.s_val (Z.pv_add rfl rfl (by first | exact IntWalk.i64_in _ (by omega) | rfl)) ?_
              refine Z.s_val (Z.pv_assign rfl) ?_
              refine Z.j_nil ?_
              refine Z.j_then ?_
              refine Z.j_own (T := 36) (k := 2) (m := xq.ps.length) (cap := cap) (c := xq.ps.flatMap Cell.c) (sp := sp) (by repeat (first | with_reducible exact Z.Take.here | apply Z.Take.there)) e2 e3 ?_
              rw [← e1]
              refine Z.j_own (T := 4) (k := 1) (m := xq.ps.length) (cap := cap2) (c := bls xq) (sp := sp2) (by repeat (first | with_reducible exact Z.Take.here | apply Z.Take.there)) f2 f3 ?_
              rw [← f1]
              first
              | (refine Z.j_cast (A := Z.Own 3 1 v33 ((inX xq a i).length + 1) (i64s (inX xq a i) ++ [.int .i64 ((i : Int) + 1)])) (B := Z.Own 3 1 v33 (inX xq a (i + 1)).length (i64s (inX xq a (i + 1)))) (by repeat (first | with_reducible exact Z.Take.here | apply Z.Take.there)) (by rw [hsu, if_pos (by rw [hg20, show hasA a (xq.pa i) = true from hc28]; rfl)]; simp) ?_)
              | (refine Z.j_cast (A := Z.Own 3 1 vo (inX xq a i).length (i64s (inX xq a i))) (B := Z.Own 3 1 vo (inX xq a (i + 1)).length (i64s (inX xq a (i + 1)))) (by repeat (first | with_reducible exact Z.Take.here | apply Z.Take.there)) (by rw [hsu, if_neg (by first | (rw [show hasA a (xq.pa i) = false from hc28]; simp) | (rw [show xq.la i = false from by simpa using hg20]; simp)), List.append_nil]) ?_)
              first | (refine Z.j_nextG (X := { x : (Nat) × (Value) // (x.1) ≤ xq.ps.length }) (EE := (fun (x : { x : (Nat) × (Value) // (x.1) ≤ xq.ps.length }) => [(1, v), (2, .pointer (some ⟨b2, 0, none⟩)), (5, (x.1.2)), (6, .int .i64 ((x.1.1) : Nat))])) (LL := (fun (x : { x : (Nat) × (Value) // (x.1) ≤ xq.ps.length }) => [Z.cl b2 33 [vp, vl], OC vp xq, OB vl xq, Z.Own 3 1 (x.1.2) (inX xq a (x.1.1)).length (i64s (inX xq a (x.1.1)))])) (μ := (fun (x : { x : (Nat) × (Value) // (x.1) ≤ xq.ps.length }) => xq.ps.length - (x.1.1))) (x := ⟨(i, vo), hinv⟩) ⟨(i + 1, v33), by omega⟩ ?_ ?_ ?_; (show xq.ps.length - (i + 1) < xq.ps.length - i; omega); (exact (by repeat (first | exact trivial | refine ⟨rfl, ?_⟩))); (exact Z.st_td (by repeat (first | with_reducible exact Z.Takes.nil | (apply Z.Takes.cons; (repeat (first | with_reducible exact Z.Take.here | apply Z.Take.there))))) (by repeat (first | with_reducible exact Z.Drop.nil | apply Z.Drop.cons)))) | (refine Z.j_nextG (X := { x : (Nat) × (Value) // (x.1) ≤ xq.ps.length }) (EE := (fun (x : { x : (Nat) × (Value) // (x.1) ≤ xq.ps.length }) => [(1, v), (2, .pointer (some ⟨b2, 0, none⟩)), (5, (x.1.2)), (6, .int .i64 ((x.1.1) : Nat))])) (LL := (fun (x : { x : (Nat) × (Value) // (x.1) ≤ xq.ps.length }) => [Z.cl b2 33 [vp, vl], OC vp xq, OB vl xq, Z.Own 3 1 (x.1.2) (inX xq a (x.1.1)).length (i64s (inX xq a (x.1.1)))])) (μ := (fun (x : { x : (Nat) × (Value) // (x.1) ≤ xq.ps.length }) => xq.ps.length - (x.1.1))) (x := ⟨(i, vo), hinv⟩) ⟨(i + 1, vo), by omega⟩ ?_ ?_ ?_; (show xq.ps.length - (i + 1) < xq.ps.length - i; omega); (exact (by repeat (first | exact trivial | refine ⟨rfl, ?_⟩))); (exact Z.st_td (by repeat (first | with_reducible exact Z.Takes.nil | (apply Z.Takes.cons; (repeat (first | with_reducible exact Z.Take.here | apply Z.Take.there))))) (by repeat (first | with_reducible exact Z.Drop.nil | apply Z.Drop.cons))))
  · try (with_reducible first | replace hc12 := of_decide_eq_true hc12 | replace hc12 := of_decide_eq_false hc12 | replace hc12 := Z.nd_true hc12 | replace hc12 := Z.nd_false hc12 | replace hc12 := Z.nn_true hc12 | replace hc12 := Z.nn_false hc12 | replace hc12 := Z.nb_true hc12 | replace hc12 := Z.nb_false hc12)
    first
    | (exfalso; first | (cases hc12; done) | omega)
    | skip
      have hin : i = xq.ps.length := by omega
      subst hin
      rw [inX_eq hok hR]
      refine Z.j_exit ?_
      refine Z.j_then_exit ?_
      refine Z.j_then_exit ?_
      refine Z.j_blk_here rfl ?_
      refine Z.j_then ?_
      refine Z.j_seq ?_
      refine Z.j_region ?_
      refine Z.s_val (Z.pv_move rfl) ?_
      refine Z.s_val (Z.pv_assign rfl) ?_
      refine Z.j_nil ?_
      refine Z.j_then ?_
      refine Z.j_ret ?_
      refine Z.j_done_ret (Z.rv1 (Z.rv_tmp (t := 4) rfl)) ?_
      exact Z.post_of rfl (by repeat (first | with_reducible exact Z.Takes.nil | (apply Z.Takes.cons; (repeat (first | with_reducible exact Z.Take.here | apply Z.Take.there))))) (by repeat (first | with_reducible exact Z.Drop.nil | apply Z.Drop.cons))

set_option maxHeartbeats 4000000 in
set_option maxRecDepth 100000 in
theorem same_spec (w0 : World) (u1 u2 : Value) (l : List Int) (hl : l.length ≤ 1000) : Z.FnD Try.prog w0 21 [u1, u2] [Z.Own 3 1 u1 l.length (i64s l), Z.Own 3 1 u2 l.length (i64s l)] (.bool true) [Z.Own 3 1 u1 l.length (i64s l), Z.Own 3 1 u2 l.length (i64s l)] := by
  refine Z.Fn.fnD ?_
  refine Z.fn_enter (n := 26) Try.func21 rfl (by rfl) (by rfl) (fun Fr => ?_)
  refine Z.j_app (by repeat (first | exact Z.App.nil | apply Z.App.cons)) ?_
  refine Z.j_seq ?_
  refine Z.j_region ?_
  refine Z.s_val (Z.pv_assign rfl) ?_
  refine Z.j_nil ?_
  refine Z.j_then ?_
  refine Z.j_seq ?_
  refine Z.j_seq ?_
  refine Z.j_region ?_
  refine Z.s_val (Z.pv_move rfl) ?_
  refine Z.s_val (Z.pv_lenO (m := l.length) (c := i64s l) (v := u1) rfl (by repeat (first | with_reducible exact Z.Take.here | apply Z.Take.there)) Try.underlying48) ?_
  refine Z.s_val (Z.pv_move rfl) ?_
  refine Z.s_val (Z.pv_lenO (m := l.length) (c := i64s l) (v := u2) rfl (by repeat (first | with_reducible exact Z.Take.here | apply Z.Take.there)) Try.underlying48) ?_
  refine Z.s_val (Z.pv_neq rfl rfl) ?_
  refine Z.j_nil ?_
  refine Z.j_then ?_
  refine Z.j_cond rfl (fun hc10 => ?_) (fun hc10 => ?_)
  · try (with_reducible first | replace hc10 := of_decide_eq_true hc10 | replace hc10 := of_decide_eq_false hc10 | replace hc10 := Z.nd_true hc10 | replace hc10 := Z.nd_false hc10 | replace hc10 := Z.nn_true hc10 | replace hc10 := Z.nn_false hc10 | replace hc10 := Z.nb_true hc10 | replace hc10 := Z.nb_false hc10)
    exact absurd rfl hc10
  · try (with_reducible first | replace hc10 := of_decide_eq_true hc10 | replace hc10 := of_decide_eq_false hc10 | replace hc10 := Z.nd_true hc10 | replace hc10 := Z.nd_false hc10 | replace hc10 := Z.nn_true hc10 | replace hc10 := Z.nn_false hc10 | replace hc10 := Z.nb_true hc10 | replace hc10 := Z.nb_false hc10)
    first
    | (exfalso; first | (cases hc10; done) | omega)
    | skip
      refine Z.j_skip ?_
      refine Z.j_then ?_
      refine Z.j_seq ?_
      refine Z.j_seq ?_
      refine Z.j_region ?_
      refine Z.s_val (Z.pv_assign rfl) ?_
      refine Z.j_nil ?_
      refine Z.j_then ?_
      refine Z.j_block ?_
      refine Z.j_initF (E' := [(0, u1), (1, u2), (5, .int .i64 ((0) : Nat))]) (As := [Z.Own 3 1 u1 l.length (i64s l), Z.Own 3 1 u2 l.length (i64s l)]) (Fr := Fr) (by repeat (first | exact trivial | refine ⟨rfl, ?_⟩)) (by repeat (first | with_reducible exact Z.Takes.nil | (apply Z.Takes.cons; (repeat (first | with_reducible exact Z.Take.here | apply Z.Take.there))))) (by repeat (first | with_reducible exact Z.Drop.nil | apply Z.Drop.cons)) ?_
      refine Z.j_loop (X := { x : (Nat) // (x) ≤ l.length }) (fun (x : { x : (Nat) // (x) ≤ l.length }) => [(0, u1), (1, u2), (5, .int .i64 ((x.1) : Nat))]) (fun x => (fun (x : { x : (Nat) // (x) ≤ l.length }) => [Z.Own 3 1 u1 l.length (i64s l), Z.Own 3 1 u2 l.length (i64s l)]) x ++ Fr) (fun (x : { x : (Nat) // (x) ≤ l.length }) => l.length - (x.1)) ⟨(0), by omega⟩ (fun x => ?_)
      obtain ⟨i, hinv⟩ := x
      have hinv' : i ≤ l.length := hinv
      have hi := hinv'
      show Z.J _ _ _ ([(0, u1), (1, u2), (5, .int .i64 (i : Nat))]) ([Z.Own 3 1 u1 l.length (i64s l), Z.Own 3 1 u2 l.length (i64s l)] ++ Fr) _
      refine Z.j_app (by repeat (first | exact Z.App.nil | apply Z.App.cons)) ?_
      refine Z.j_seq ?_
      refine Z.j_seq ?_
      refine Z.j_region ?_
      refine Z.s_val (Z.pv_move rfl) ?_
      refine Z.s_val (Z.pv_move rfl) ?_
      refine Z.s_val (Z.pv_lenO (m := l.length) (c := i64s l) (v := u1) rfl (by repeat (first | with_reducible exact Z.Take.here | apply Z.Take.there)) Try.underlying48) ?_
      refine Z.s_val (Z.pv_lss rfl rfl) ?_
      refine Z.j_nil ?_
      refine Z.j_then ?_
      refine Z.j_cond rfl (fun hc14 => ?_) (fun hc14 => ?_)
      · try (with_reducible first | replace hc14 := of_decide_eq_true hc14 | replace hc14 := of_decide_eq_false hc14 | replace hc14 := Z.nd_true hc14 | replace hc14 := Z.nd_false hc14 | replace hc14 := Z.nn_true hc14 | replace hc14 := Z.nn_false hc14 | replace hc14 := Z.nb_true hc14 | replace hc14 := Z.nb_false hc14)
        first
        | (exfalso; first | (cases hc14; done) | omega)
        | skip
          refine Z.j_skip ?_
          refine Z.j_then ?_
          refine Z.j_seq ?_
          refine Z.j_block ?_
          refine Z.j_seq ?_
          refine Z.j_unown (T := 3) (k := 1) (v := u1) (m := l.length) (c := i64s l) (by repeat (first | exact Z.Take.here | apply Z.Take.there)) (fun e1 e2 e3 => by exfalso; omega) (fun nb cap sp e1 e2 e3 => ?_)
          refine Z.j_unown (T := 3) (k := 1) (v := u2) (m := l.length) (c := i64s l) (by repeat (first | exact Z.Take.here | apply Z.Take.there)) (fun f1 f2 f3 => by exfalso; omega) (fun nb2 cap2 sp2 f1 f2 f3 => ?_)
          refine Z.j_draw (vals := [_, _, _, _, _, _, _, _, _]) 9 (by kernel_rfl) (by kernel_rfl) rfl (by rfl) (Z.heads_cons (Z.hq_val (Z.pv_move (by rfl))) (Z.heads_cons (Z.hq_val (Z.pv_move (by rfl))) (Z.heads_cons (Z.hq_val (Z.pv_indexAddr (o' := i) (b := nb) (o := 0) (len := l.length) (cap := cap) (by show some u1 = _; rw [e1]) (by rfl) Try.underlying48 (by exact Try.sizeOf3) (by omega) (by simp))) (Z.heads_cons (Z.hq_val (Z.pv_load1 (by rfl) (by repeat (first | with_reducible exact Z.Take.here | apply Z.Take.there)) Try.isAgg3 (get_i64 (i := i) sp (by omega)))) (Z.heads_cons (Z.hq_val (Z.pv_move (by rfl))) (Z.heads_cons (Z.hq_val (Z.pv_move (by rfl))) (Z.heads_cons (Z.hq_val (Z.pv_indexAddr (o' := i) (b := nb2) (o := 0) (len := l.length) (cap := cap2) (by show some u2 = _; rw [f1]) (by rfl) Try.underlying48 (by exact Try.sizeOf3) (by omega) (by simp))) (Z.heads_cons (Z.hq_val (Z.pv_load1 (by rfl) (by repeat (first | with_reducible exact Z.Take.here | apply Z.Take.there)) Try.isAgg3 (get_i64 (i := i) sp2 (by omega)))) (Z.heads_cons (Z.hq_val (Z.pv_neq (by rfl) (by rfl))) Z.heads_nil))))))))) ?_
          refine Z.j_nil ?_
          refine Z.j_then ?_
          refine Z.j_cond rfl (fun hc25 => ?_) (fun hc25 => ?_)
          · try (with_reducible first | replace hc25 := of_decide_eq_true hc25 | replace hc25 := of_decide_eq_false hc25 | replace hc25 := Z.nd_true hc25 | replace hc25 := Z.nd_false hc25 | replace hc25 := Z.nn_true hc25 | replace hc25 := Z.nn_false hc25 | replace hc25 := Z.nb_true hc25 | replace hc25 := Z.nb_false hc25)
            exact absurd rfl hc25
          · try (with_reducible first | replace hc25 := of_decide_eq_true hc25 | replace hc25 := of_decide_eq_false hc25 | replace hc25 := Z.nd_true hc25 | replace hc25 := Z.nd_false hc25 | replace hc25 := Z.nn_true hc25 | replace hc25 := Z.nn_false hc25 | replace hc25 := Z.nb_true hc25 | replace hc25 := Z.nb_false hc25)
            first
            | (exfalso; first | (cases hc25; done) | omega)
            | skip
              refine Z.j_skip ?_
              refine Z.j_blk ?_
              refine Z.j_then ?_
              refine Z.j_region ?_
              refine Z.s_val (Z.pv_move rfl) ?_
              refine Z.s_val (Z.pv_add rfl rfl (by first | exact IntWalk.i64_in _ (by omega) | rfl)) ?_
              refine Z.s_val (Z.pv_assign rfl) ?_
              refine Z.j_nil ?_
              refine Z.j_then ?_
              refine Z.j_own (T := 3) (k := 1) (m := l.length) (cap := cap) (c := i64s l) (sp := sp) (by repeat (first | with_reducible exact Z.Take.here | apply Z.Take.there)) e2 e3 ?_
              rw [← e1]
              refine Z.j_own (T := 3) (k := 1) (m := l.length) (cap := cap2) (c := i64s l) (sp := sp2) (by repeat (first | with_reducible exact Z.Take.here | apply Z.Take.there)) f2 f3 ?_
              rw [← f1]
              (refine Z.j_nextG (X := { x : (Nat) // (x) ≤ l.length }) (EE := (fun (x : { x : (Nat) // (x) ≤ l.length }) => [(0, u1), (1, u2), (5, .int .i64 ((x.1) : Nat))])) (LL := (fun (x : { x : (Nat) // (x) ≤ l.length }) => [Z.Own 3 1 u1 l.length (i64s l), Z.Own 3 1 u2 l.length (i64s l)])) (μ := (fun (x : { x : (Nat) // (x) ≤ l.length }) => l.length - (x.1))) (x := ⟨(i), hinv⟩) ⟨(i + 1), by omega⟩ ?_ ?_ ?_; (show l.length - (i + 1) < l.length - i; omega); (exact (by repeat (first | exact trivial | refine ⟨rfl, ?_⟩))); (exact Z.st_td (by repeat (first | with_reducible exact Z.Takes.nil | (apply Z.Takes.cons; (repeat (first | with_reducible exact Z.Take.here | apply Z.Take.there))))) (by repeat (first | with_reducible exact Z.Drop.nil | apply Z.Drop.cons))))
      · try (with_reducible first | replace hc14 := of_decide_eq_true hc14 | replace hc14 := of_decide_eq_false hc14 | replace hc14 := Z.nd_true hc14 | replace hc14 := Z.nd_false hc14 | replace hc14 := Z.nn_true hc14 | replace hc14 := Z.nn_false hc14 | replace hc14 := Z.nb_true hc14 | replace hc14 := Z.nb_false hc14)
        first
        | (exfalso; first | (cases hc14; done) | omega)
        | skip
          refine Z.j_exit ?_
          refine Z.j_then_exit ?_
          refine Z.j_then_exit ?_
          refine Z.j_blk_here rfl ?_
          refine Z.j_then ?_
          refine Z.j_seq ?_
          refine Z.j_region ?_
          refine Z.s_val (Z.pv_assign rfl) ?_
          refine Z.j_nil ?_
          refine Z.j_then ?_
          refine Z.j_ret ?_
          refine Z.j_done_ret (Z.rv1 (Z.rv_tmp (t := 4) rfl)) ?_
          exact Z.post_of ⟨rfl, rfl⟩ (by repeat (first | with_reducible exact Z.Takes.nil | (apply Z.Takes.cons; (repeat (first | with_reducible exact Z.Take.here | apply Z.Take.there))))) (by repeat (first | with_reducible exact Z.Drop.nil | apply Z.Drop.cons))

end Go.Proofs.Ytleofndjeekalaa
