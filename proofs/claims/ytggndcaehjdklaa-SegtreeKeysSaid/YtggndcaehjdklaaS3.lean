/- Segtree: the tree's putting. -/
import Derived.Test.YtggndcaehjdklaaS2
namespace Go.Proofs.Ytggndcaehjdklaa
open Go Go.RowKit
set_option maxHeartbeats 4000000 in
set_option maxRecDepth 100000 in
theorem set0_spec (w0 : World) (tb ab : Nat) (r : Int) (A : Ar) (key : Int) (a : Agg) (i : Int) (hA : A.ok) (hi : 0 ≤ i ∧ i ≤ 4194304) (_hk : 0 ≤ key ∧ key < 4294967296) : Z.FnD Try.prog w0 17 [.pointer (some ⟨tb, 0, none⟩), .int .i32 i, .int .i64 0, .int .u32 key, .agg a.l.toArray] [Z.cl tb 52 [.pointer (some ⟨ab, 0, none⟩), .int .i32 r], Arena ab A] (.int .i32 (A.put key a 0 i).1) [Z.cl tb 52 [.pointer (some ⟨ab, 0, none⟩), .int .i32 r], Arena ab (A.put key a 0 i).2] := by
  have hB := alloc_ok hA
  have hj := next_bd hA
  have hP := pushed_ok (i := i) hA
  have hQ := pushed_ok (i := A.next) hB
  obtain ⟨⟨hl1, hl2⟩, hl3, hl4⟩ := node_ok (i := i) hA
  obtain ⟨⟨hl5, hl6⟩, hl7, hl8⟩ := node_ok (i := A.next) hB
  refine Z.Fn.fnD ?_
  refine Z.fn_enter (n := 62) Try.func17 rfl (by rfl) (by rfl) (fun Fr => ?_)
  refine Z.j_app (by repeat (first | exact Z.App.nil | apply Z.App.cons)) ?_
  refine Z.j_seq ?_
  refine Z.j_region ?_
  refine Z.s_box rfl (fun b9 => ?_)
  refine Z.s_val (Z.pv_assign rfl) ?_
  refine Z.j_nil ?_
  refine Z.j_then ?_
  refine Z.j_seq ?_
  refine Z.j_seq ?_
  refine Z.j_region ?_
  refine Z.s_val (Z.pv_move rfl) ?_
  refine Z.s_val (Z.pv_eql rfl rfl) ?_
  refine Z.j_nil ?_
  refine Z.j_then ?_
  refine Z.j_cond rfl (fun hc13 => ?_) (fun hc13 => ?_)
  · try (with_reducible first | replace hc13 := of_decide_eq_true hc13 | replace hc13 := of_decide_eq_false hc13 | replace hc13 := Z.nd_true hc13 | replace hc13 := Z.nd_false hc13 | replace hc13 := Z.nn_true hc13 | replace hc13 := Z.nn_false hc13 | replace hc13 := Z.nb_true hc13 | replace hc13 := Z.nb_false hc13)
    first
    | (exfalso; first | (cases hc13; done) | omega)
    | skip
      refine Z.j_region ?_
      refine Z.s_val (Z.pv_move rfl) ?_
      refine Z.s_val (Z.pv_nil rfl) ?_
      refine Z.s_val (Z.pv_fieldAddr (o' := 0) rfl Try.underlying52 rfl Try.sizeOf48 rfl) ?_
      refine Z.s_val (Z.pv_load1 rfl (by repeat (first | with_reducible exact Z.Take.here | apply Z.Take.there)) Try.isAgg48 (by rfl)) ?_
      refine Z.s_callD rfl rfl rfl isFn26 (by repeat (first | with_reducible exact Z.Takes.nil | (apply Z.Takes.cons; (repeat (first | with_reducible exact Z.Take.here | apply Z.Take.there))))) (by repeat (first | exact Z.App.nil | apply Z.App.cons)) (allocs_spec _ _ _ (by assumption)) ?_
      refine Z.s_val (Z.pv_move rfl) ?_
      refine Z.s_val (Z.pv_extract rfl rfl) ?_
      refine Z.s_val (Z.pv_extract rfl rfl) ?_
      refine Z.s_val (Z.pv_assign rfl) ?_
      refine Z.j_nil ?_
      refine Z.j_then ?_
      refine Z.j_seq ?_
      refine Z.j_region ?_
      refine Z.s_val (Z.pv_move rfl) ?_
      refine Z.s_val (Z.pv_move rfl) ?_
      refine Z.s_callD rfl rfl rfl isFn27 (by repeat (first | with_reducible exact Z.Takes.nil | (apply Z.Takes.cons; (repeat (first | with_reducible exact Z.Take.here | apply Z.Take.there))))) (by repeat (first | exact Z.App.nil | apply Z.App.cons)) (push_spec _ _ _ _ _ _ (by assumption) (by omega)) ?_
      refine Z.s_alloc Try.zeroValue69 (fun b11 => ?_)
      refine Z.s_storeA rfl rfl Try.sizeOf69 rfl (by repeat (first | with_reducible exact Z.Upd.here | apply Z.Upd.there)) (by rfl) ?_
      refine Z.j_nil ?_
      refine Z.j_then ?_
      refine Z.j_seq ?_
      refine Z.j_seq ?_
      refine Z.j_region ?_
      refine Z.s_val (Z.pv_move rfl) ?_
      refine Z.s_val (Z.pv_eql rfl rfl) ?_
      refine Z.j_nil ?_
      refine Z.j_then ?_
      refine Z.j_cond rfl (fun hc26 => ?_) (fun hc26 => ?_)
      · try (with_reducible first | replace hc26 := of_decide_eq_true hc26 | replace hc26 := of_decide_eq_false hc26 | replace hc26 := Z.nd_true hc26 | replace hc26 := Z.nd_false hc26 | replace hc26 := Z.nn_true hc26 | replace hc26 := Z.nn_false hc26 | replace hc26 := Z.nb_true hc26 | replace hc26 := Z.nb_false hc26)
        first
        | (exfalso; first | (cases hc26; done) | omega)
        | skip
          refine Z.j_seq ?_
          refine Z.j_draw (vals := [_, _, _, _, _, _, _]) 7 (by kernel_rfl) (by kernel_rfl) rfl (by rfl) (Z.heads_cons (Z.hq_val (Z.pv_move (by rfl))) (Z.heads_cons (Z.hq_val (Z.pv_nil (by rfl))) (Z.heads_cons (Z.hq_val (Z.pv_fieldAddr (o' := 0) (by rfl) Try.underlying52 (by rfl) (by exact Try.sizeOf48) (by rfl))) (Z.heads_cons (Z.hq_val (Z.pv_load1 (by rfl) (by repeat (first | with_reducible exact Z.Take.here | apply Z.Take.there)) Try.isAgg48 (by rfl))) (Z.heads_cons (Z.hq_val (Z.pv_move (by rfl))) (Z.heads_cons (Z.hq_val (Z.pv_loadA (by rfl) (by repeat (first | with_reducible exact Z.Take.here | apply Z.Take.there)) Try.isAgg41 (by exact Try.sizeOf41) (by rfl))) (Z.heads_cons (Z.hq_val (Z.pv_build (by rfl) Try.zeroValue69 pl69 (by rfl))) Z.heads_nil))))))) ?_
          refine Z.s_callD rfl rfl rfl isFn28 (by repeat (first | with_reducible exact Z.Takes.nil | (apply Z.Takes.cons; (repeat (first | with_reducible exact Z.Take.here | apply Z.Take.there))))) (by repeat (first | exact Z.App.nil | apply Z.App.cons)) (setx_spec _ _ _ _ _ _ _ _ _ _ _ (by omega)) ?_
          refine Z.j_nil ?_
          refine Z.j_then ?_
          refine Z.j_seq ?_
          refine Z.j_region ?_
          refine Z.s_val (Z.pv_move rfl) ?_
          refine Z.s_val (Z.pv_assign rfl) ?_
          refine Z.j_nil ?_
          refine Z.j_then ?_
          refine Z.j_ret ?_
          refine Z.j_then_ret ?_
          refine Z.j_done_ret (Z.rv1 (Z.rv_tmp (t := 10) rfl)) ?_
          first | (rw [put_0z (by omega)]; exact Z.post_of ⟨rfl, rfl⟩ (by repeat (first | with_reducible exact Z.Takes.nil | (apply Z.Takes.cons; (repeat (first | with_reducible exact Z.Take.here | apply Z.Take.there))))) (by repeat (first | with_reducible exact Z.Drop.nil | apply Z.Drop.cons))) | (rw [put_0n (by omega)]; exact Z.post_of ⟨rfl, rfl⟩ (by repeat (first | with_reducible exact Z.Takes.nil | (apply Z.Takes.cons; (repeat (first | with_reducible exact Z.Take.here | apply Z.Take.there))))) (by repeat (first | with_reducible exact Z.Drop.nil | apply Z.Drop.cons)))
      · exfalso; first | (cases hc26; done) | (simp at hc26; done) | (simp at hc26; omega)
  · try (with_reducible first | replace hc13 := of_decide_eq_true hc13 | replace hc13 := of_decide_eq_false hc13 | replace hc13 := Z.nd_true hc13 | replace hc13 := Z.nd_false hc13 | replace hc13 := Z.nn_true hc13 | replace hc13 := Z.nn_false hc13 | replace hc13 := Z.nb_true hc13 | replace hc13 := Z.nb_false hc13)
    first
    | (exfalso; first | (cases hc13; done) | omega)
    | skip
      refine Z.j_skip ?_
      refine Z.j_then ?_
      refine Z.j_seq ?_
      refine Z.j_region ?_
      refine Z.s_val (Z.pv_move rfl) ?_
      refine Z.s_val (Z.pv_move rfl) ?_
      refine Z.s_callD rfl rfl rfl isFn27 (by repeat (first | with_reducible exact Z.Takes.nil | (apply Z.Takes.cons; (repeat (first | with_reducible exact Z.Take.here | apply Z.Take.there))))) (by repeat (first | exact Z.App.nil | apply Z.App.cons)) (push_spec _ _ _ _ _ _ (by assumption) (by omega)) ?_
      refine Z.s_alloc Try.zeroValue69 (fun b11 => ?_)
      refine Z.s_storeA rfl rfl Try.sizeOf69 rfl (by repeat (first | with_reducible exact Z.Upd.here | apply Z.Upd.there)) (by rfl) ?_
      refine Z.j_nil ?_
      refine Z.j_then ?_
      refine Z.j_seq ?_
      refine Z.j_seq ?_
      refine Z.j_region ?_
      refine Z.s_val (Z.pv_move rfl) ?_
      refine Z.s_val (Z.pv_eql rfl rfl) ?_
      refine Z.j_nil ?_
      refine Z.j_then ?_
      refine Z.j_cond rfl (fun hc26 => ?_) (fun hc26 => ?_)
      · try (with_reducible first | replace hc26 := of_decide_eq_true hc26 | replace hc26 := of_decide_eq_false hc26 | replace hc26 := Z.nd_true hc26 | replace hc26 := Z.nd_false hc26 | replace hc26 := Z.nn_true hc26 | replace hc26 := Z.nn_false hc26 | replace hc26 := Z.nb_true hc26 | replace hc26 := Z.nb_false hc26)
        first
        | (exfalso; first | (cases hc26; done) | omega)
        | skip
          refine Z.j_seq ?_
          refine Z.j_draw (vals := [_, _, _, _, _, _, _]) 7 (by kernel_rfl) (by kernel_rfl) rfl (by rfl) (Z.heads_cons (Z.hq_val (Z.pv_move (by rfl))) (Z.heads_cons (Z.hq_val (Z.pv_nil (by rfl))) (Z.heads_cons (Z.hq_val (Z.pv_fieldAddr (o' := 0) (by rfl) Try.underlying52 (by rfl) (by exact Try.sizeOf48) (by rfl))) (Z.heads_cons (Z.hq_val (Z.pv_load1 (by rfl) (by repeat (first | with_reducible exact Z.Take.here | apply Z.Take.there)) Try.isAgg48 (by rfl))) (Z.heads_cons (Z.hq_val (Z.pv_move (by rfl))) (Z.heads_cons (Z.hq_val (Z.pv_loadA (by rfl) (by repeat (first | with_reducible exact Z.Take.here | apply Z.Take.there)) Try.isAgg41 (by exact Try.sizeOf41) (by rfl))) (Z.heads_cons (Z.hq_val (Z.pv_build (by rfl) Try.zeroValue69 pl69 (by rfl))) Z.heads_nil))))))) ?_
          refine Z.s_callD rfl rfl rfl isFn28 (by repeat (first | with_reducible exact Z.Takes.nil | (apply Z.Takes.cons; (repeat (first | with_reducible exact Z.Take.here | apply Z.Take.there))))) (by repeat (first | exact Z.App.nil | apply Z.App.cons)) (setx_spec _ _ _ _ _ _ _ _ _ _ _ (by omega)) ?_
          refine Z.j_nil ?_
          refine Z.j_then ?_
          refine Z.j_seq ?_
          refine Z.j_region ?_
          refine Z.s_val (Z.pv_move rfl) ?_
          refine Z.s_val (Z.pv_assign rfl) ?_
          refine Z.j_nil ?_
          refine Z.j_then ?_
          refine Z.j_ret ?_
          refine Z.j_then_ret ?_
          refine Z.j_done_ret (Z.rv1 (Z.rv_tmp (t := 10) rfl)) ?_
          first | (rw [put_0z (by omega)]; exact Z.post_of ⟨rfl, rfl⟩ (by repeat (first | with_reducible exact Z.Takes.nil | (apply Z.Takes.cons; (repeat (first | with_reducible exact Z.Take.here | apply Z.Take.there))))) (by repeat (first | with_reducible exact Z.Drop.nil | apply Z.Drop.cons))) | (rw [put_0n (by omega)]; exact Z.post_of ⟨rfl, rfl⟩ (by repeat (first | with_reducible exact Z.Takes.nil | (apply Z.Takes.cons; (repeat (first | with_reducible exact Z.Take.here | apply Z.Take.there))))) (by repeat (first | with_reducible exact Z.Drop.nil | apply Z.Drop.cons)))
      · exfalso; first | (cases hc26; done) | (simp at hc26; done) | (simp at hc26; omega)

set_option maxHeartbeats 4000000 in
set_option maxRecDepth 100000 in
theorem set1_spec (w0 : World) (tb ab : Nat) (r : Int) (A : Ar) (key : Int) (a : Agg) (i : Int) (hA : A.ok) (hi : 0 ≤ i ∧ i ≤ 4194304) (hk : 0 ≤ key ∧ key < 4294967296) (h : Nat) (hh : h + 1 ≤ 32) (ih : ∀ w0 A i, A.ok → (0 ≤ i ∧ i ≤ 4194304) → Z.FnD Try.prog w0 17 [.pointer (some ⟨tb, 0, none⟩), .int .i32 i, .int .i64 h, .int .u32 key, .agg a.l.toArray] [Z.cl tb 52 [.pointer (some ⟨ab, 0, none⟩), .int .i32 r], Arena ab A] (.int .i32 (A.put key a h i).1) [Z.cl tb 52 [.pointer (some ⟨ab, 0, none⟩), .int .i32 r], Arena ab (A.put key a h i).2]) : Z.FnD Try.prog w0 17 [.pointer (some ⟨tb, 0, none⟩), .int .i32 i, .int .i64 (h + 1 : Nat), .int .u32 key, .agg a.l.toArray] [Z.cl tb 52 [.pointer (some ⟨ab, 0, none⟩), .int .i32 r], Arena ab A] (.int .i32 (A.put key a (h + 1) i).1) [Z.cl tb 52 [.pointer (some ⟨ab, 0, none⟩), .int .i32 r], Arena ab (A.put key a (h + 1) i).2] := by
  have hB := alloc_ok hA
  have hj := next_bd hA
  have hP := pushed_ok (i := i) hA
  have hQ := pushed_ok (i := A.next) hB
  obtain ⟨⟨hl1, hl2⟩, hl3, hl4⟩ := node_ok (i := i) hA
  obtain ⟨⟨hl5, hl6⟩, hl7, hl8⟩ := node_ok (i := A.next) hB
  obtain ⟨hm1, hm2⟩ := put_ok key a h _ _ hP ⟨hl1, hl2⟩
  obtain ⟨hm3, hm4⟩ := put_ok key a h _ _ hP ⟨hl3, hl4⟩
  obtain ⟨hm5, hm6⟩ := put_ok key a h _ _ hQ ⟨hl5, hl6⟩
  obtain ⟨hm7, hm8⟩ := put_ok key a h _ _ hQ ⟨hl7, hl8⟩
  refine Z.Fn.fnD ?_
  refine Z.fn_enter (n := 62) Try.func17 rfl (by rfl) (by rfl) (fun Fr => ?_)
  refine Z.j_app (by repeat (first | exact Z.App.nil | apply Z.App.cons)) ?_
  refine Z.j_seq ?_
  refine Z.j_region ?_
  refine Z.s_box rfl (fun b9 => ?_)
  refine Z.s_val (Z.pv_assign rfl) ?_
  refine Z.j_nil ?_
  refine Z.j_then ?_
  refine Z.j_seq ?_
  refine Z.j_seq ?_
  refine Z.j_region ?_
  refine Z.s_val (Z.pv_move rfl) ?_
  refine Z.s_val (Z.pv_eql rfl rfl) ?_
  refine Z.j_nil ?_
  refine Z.j_then ?_
  refine Z.j_cond rfl (fun hc13 => ?_) (fun hc13 => ?_)
  · try (with_reducible first | replace hc13 := of_decide_eq_true hc13 | replace hc13 := of_decide_eq_false hc13 | replace hc13 := Z.nd_true hc13 | replace hc13 := Z.nd_false hc13 | replace hc13 := Z.nn_true hc13 | replace hc13 := Z.nn_false hc13 | replace hc13 := Z.nb_true hc13 | replace hc13 := Z.nb_false hc13)
    first
    | (exfalso; first | (cases hc13; done) | omega)
    | skip
      refine Z.j_region ?_
      refine Z.s_val (Z.pv_move rfl) ?_
      refine Z.s_val (Z.pv_nil rfl) ?_
      refine Z.s_val (Z.pv_fieldAddr (o' := 0) rfl Try.underlying52 rfl Try.sizeOf48 rfl) ?_
      refine Z.s_val (Z.pv_load1 rfl (by repeat (first | with_reducible exact Z.Take.here | apply Z.Take.there)) Try.isAgg48 (by rfl)) ?_
      refine Z.s_callD rfl rfl rfl isFn26 (by repeat (first | with_reducible exact Z.Takes.nil | (apply Z.Takes.cons; (repeat (first | with_reducible exact Z.Take.here | apply Z.Take.there))))) (by repeat (first | exact Z.App.nil | apply Z.App.cons)) (allocs_spec _ _ _ (by assumption)) ?_
      refine Z.s_val (Z.pv_move rfl) ?_
      refine Z.s_val (Z.pv_extract rfl rfl) ?_
      refine Z.s_val (Z.pv_extract rfl rfl) ?_
      refine Z.s_val (Z.pv_assign rfl) ?_
      refine Z.j_nil ?_
      refine Z.j_then ?_
      refine Z.j_seq ?_
      refine Z.j_region ?_
      refine Z.s_val (Z.pv_move rfl) ?_
      refine Z.s_val (Z.pv_move rfl) ?_
      refine Z.s_callD rfl rfl rfl isFn27 (by repeat (first | with_reducible exact Z.Takes.nil | (apply Z.Takes.cons; (repeat (first | with_reducible exact Z.Take.here | apply Z.Take.there))))) (by repeat (first | exact Z.App.nil | apply Z.App.cons)) (push_spec _ _ _ _ _ _ (by assumption) (by omega)) ?_
      refine Z.s_alloc Try.zeroValue69 (fun b11 => ?_)
      refine Z.s_storeA rfl rfl Try.sizeOf69 rfl (by repeat (first | with_reducible exact Z.Upd.here | apply Z.Upd.there)) (by rfl) ?_
      refine Z.j_nil ?_
      refine Z.j_then ?_
      refine Z.j_seq ?_
      refine Z.j_seq ?_
      refine Z.j_region ?_
      refine Z.s_val (Z.pv_move rfl) ?_
      refine Z.s_val (Z.pv_eql rfl rfl) ?_
      refine Z.j_nil ?_
      refine Z.j_then ?_
      refine Z.j_cond rfl (fun hc26 => ?_) (fun hc26 => ?_)
      · exfalso; first | (cases hc26; done) | (simp at hc26; done) | (simp at hc26; omega)
      · try (with_reducible first | replace hc26 := of_decide_eq_true hc26 | replace hc26 := of_decide_eq_false hc26 | replace hc26 := Z.nd_true hc26 | replace hc26 := Z.nd_false hc26 | replace hc26 := Z.nn_true hc26 | replace hc26 := Z.nn_false hc26 | replace hc26 := Z.nb_true hc26 | replace hc26 := Z.nb_false hc26)
        first
        | (exfalso; first | (cases hc26; done) | omega)
        | skip
          refine Z.j_skip ?_
          refine Z.j_then ?_
          refine Z.j_seq ?_
          refine Z.j_seq ?_
          refine Z.j_region ?_
          refine Z.s_val (Z.pv_move rfl) ?_
          refine Z.s_val (Z.pv_move rfl) ?_
          refine Z.s_callD rfl rfl rfl isFn29 (by repeat (first | with_reducible exact Z.Takes.nil | (apply Z.Takes.cons; (repeat (first | with_reducible exact Z.Take.here | apply Z.Take.there))))) (by repeat (first | exact Z.App.nil | apply Z.App.cons)) (right_spec _ _ _ (by omega) (by omega) (by assumption)) ?_
          refine Z.j_nil ?_
          refine Z.j_then ?_
          refine Z.j_cond rfl (fun hc38 => ?_) (fun hc38 => ?_)
          · try (with_reducible first | replace hc38 := of_decide_eq_true hc38 | replace hc38 := of_decide_eq_false hc38 | replace hc38 := Z.nd_true hc38 | replace hc38 := Z.nd_false hc38 | replace hc38 := Z.nn_true hc38 | replace hc38 := Z.nn_false hc38 | replace hc38 := Z.nb_true hc38 | replace hc38 := Z.nb_false hc38)
            first
            | (exfalso; first | (cases hc38; done) | omega)
            | skip
              refine Z.j_region ?_
              refine Z.s_val (Z.pv_move rfl) ?_
              refine Z.s_val (Z.pv_fieldAddr (o' := 1) rfl Try.underlying69 rfl Try.sizeOf21 rfl) ?_
              refine Z.s_val (Z.pv_load1 rfl (by repeat (first | with_reducible exact Z.Take.here | apply Z.Take.there)) Try.isAgg21 (by rfl)) ?_
              refine Z.s_val (Z.pv_move rfl) ?_
              refine Z.s_val (Z.pv_sub (c := (h : Int)) rfl rfl (by rw [show ((h + 1 : Nat) : Int) - 1 = h by omega]; exact IntWalk.i64_in _ (by omega))) ?_
              refine Z.s_val (Z.pv_move rfl) ?_
              refine Z.s_val (Z.pv_loadA rfl (by repeat (first | with_reducible exact Z.Take.here | apply Z.Take.there)) Try.isAgg41 Try.sizeOf41 (by rfl)) ?_
              refine Z.s_callD rfl rfl rfl isFn17 (by repeat (first | with_reducible exact Z.Takes.nil | (apply Z.Takes.cons; (repeat (first | with_reducible exact Z.Take.here | apply Z.Take.there))))) (by repeat (first | exact Z.App.nil | apply Z.App.cons)) (ih _ _ _ (by assumption) (by omega)) ?_
              refine Z.s_val (Z.pv_fieldAddr (o' := 1) rfl Try.underlying69 rfl Try.sizeOf21 rfl) ?_
              refine Z.s_store1 rfl rfl (by first | rfl | assumption) Try.sizeOf21 (by repeat (first | with_reducible exact Z.Upd.here | apply Z.Upd.there)) (by rfl) ?_
              refine Z.j_nil ?_
              refine Z.j_then ?_
              refine Z.j_seq ?_
              refine Z.j_region ?_
              refine Z.s_val (Z.pv_move rfl) ?_
              refine Z.s_val (Z.pv_move rfl) ?_
              refine Z.s_val (Z.pv_loadA rfl (by repeat (first | with_reducible exact Z.Take.here | apply Z.Take.there)) Try.isAgg69 Try.sizeOf69 (by rfl)) ?_
              refine Z.s_callD rfl rfl rfl isFn30 (by repeat (first | with_reducible exact Z.Takes.nil | (apply Z.Takes.cons; (repeat (first | with_reducible exact Z.Take.here | apply Z.Take.there))))) (by repeat (first | exact Z.App.nil | apply Z.App.cons)) (joinx_spec _ _ _ _ _ _ _ _ _ _ _ _ _ (by omega) (by omega)) ?_
              refine Z.j_nil ?_
              refine Z.j_then ?_
              refine Z.j_seq ?_
              refine Z.j_region ?_
              refine Z.s_val (Z.pv_move rfl) ?_
              refine Z.s_val (Z.pv_assign rfl) ?_
              refine Z.j_nil ?_
              refine Z.j_then ?_
              refine Z.j_ret ?_
              refine Z.j_done_ret (Z.rv1 (Z.rv_tmp (t := 10) rfl)) ?_
              first | (rw [put_zr (by omega) hc38]; exact Z.post_of ⟨rfl, rfl⟩ (by repeat (first | with_reducible exact Z.Takes.nil | (apply Z.Takes.cons; (repeat (first | with_reducible exact Z.Take.here | apply Z.Take.there))))) (by repeat (first | with_reducible exact Z.Drop.nil | apply Z.Drop.cons))) | (rw [put_zl (by omega) hc38]; exact Z.post_of ⟨rfl, rfl⟩ (by repeat (first | with_reducible exact Z.Takes.nil | (apply Z.Takes.cons; (repeat (first | with_reducible exact Z.Take.here | apply Z.Take.there))))) (by repeat (first | with_reducible exact Z.Drop.nil | apply Z.Drop.cons))) | (rw [put_sr (by omega) hc38]; exact Z.post_of ⟨rfl, rfl⟩ (by repeat (first | with_reducible exact Z.Takes.nil | (apply Z.Takes.cons; (repeat (first | with_reducible exact Z.Take.here | apply Z.Take.there))))) (by repeat (first | with_reducible exact Z.Drop.nil | apply Z.Drop.cons))) | (rw [put_sl (by omega) hc38]; exact Z.post_of ⟨rfl, rfl⟩ (by repeat (first | with_reducible exact Z.Takes.nil | (apply Z.Takes.cons; (repeat (first | with_reducible exact Z.Take.here | apply Z.Take.there))))) (by repeat (first | with_reducible exact Z.Drop.nil | apply Z.Drop.cons)))
          · try (with_reducible first | replace hc38 := of_decide_eq_true hc38 | replace hc38 := of_decide_eq_false hc38 | replace hc38 := Z.nd_true hc38 | replace hc38 := Z.nd_false hc38 | replace hc38 := Z.nn_true hc38 | replace hc38 := Z.nn_false hc38 | replace hc38 := Z.nb_true hc38 | replace hc38 := Z.nb_false hc38)
            first
            | (exfalso; first | (cases hc38; done) | omega)
            | skip
              refine Z.j_region ?_
              refine Z.s_val (Z.pv_move rfl) ?_
              refine Z.s_val (Z.pv_fieldAddr (o' := 0) rfl Try.underlying69 rfl Try.sizeOf21 rfl) ?_
              refine Z.s_val (Z.pv_load1 rfl (by repeat (first | with_reducible exact Z.Take.here | apply Z.Take.there)) Try.isAgg21 (by rfl)) ?_
              refine Z.s_val (Z.pv_move rfl) ?_
              refine Z.s_val (Z.pv_sub (c := (h : Int)) rfl rfl (by rw [show ((h + 1 : Nat) : Int) - 1 = h by omega]; exact IntWalk.i64_in _ (by omega))) ?_
              refine Z.s_val (Z.pv_move rfl) ?_
              refine Z.s_val (Z.pv_loadA rfl (by repeat (first | with_reducible exact Z.Take.here | apply Z.Take.there)) Try.isAgg41 Try.sizeOf41 (by rfl)) ?_
              refine Z.s_callD rfl rfl rfl isFn17 (by repeat (first | with_reducible exact Z.Takes.nil | (apply Z.Takes.cons; (repeat (first | with_reducible exact Z.Take.here | apply Z.Take.there))))) (by repeat (first | exact Z.App.nil | apply Z.App.cons)) (ih _ _ _ (by assumption) (by omega)) ?_
              refine Z.s_val (Z.pv_fieldAddr (o' := 0) rfl Try.underlying69 rfl Try.sizeOf21 rfl) ?_
              refine Z.s_store1 rfl rfl (by first | rfl | assumption) Try.sizeOf21 (by repeat (first | with_reducible exact Z.Upd.here | apply Z.Upd.there)) (by rfl) ?_
              refine Z.j_nil ?_
              refine Z.j_then ?_
              refine Z.j_seq ?_
              refine Z.j_region ?_
              refine Z.s_val (Z.pv_move rfl) ?_
              refine Z.s_val (Z.pv_move rfl) ?_
              refine Z.s_val (Z.pv_loadA rfl (by repeat (first | with_reducible exact Z.Take.here | apply Z.Take.there)) Try.isAgg69 Try.sizeOf69 (by rfl)) ?_
              refine Z.s_callD rfl rfl rfl isFn30 (by repeat (first | with_reducible exact Z.Takes.nil | (apply Z.Takes.cons; (repeat (first | with_reducible exact Z.Take.here | apply Z.Take.there))))) (by repeat (first | exact Z.App.nil | apply Z.App.cons)) (joinx_spec _ _ _ _ _ _ _ _ _ _ _ _ _ (by omega) (by omega)) ?_
              refine Z.j_nil ?_
              refine Z.j_then ?_
              refine Z.j_seq ?_
              refine Z.j_region ?_
              refine Z.s_val (Z.pv_move rfl) ?_
              refine Z.s_val (Z.pv_assign rfl) ?_
              refine Z.j_nil ?_
              refine Z.j_then ?_
              refine Z.j_ret ?_
              refine Z.j_done_ret (Z.rv1 (Z.rv_tmp (t := 10) rfl)) ?_
              first | (rw [put_zr (by omega) hc38]; exact Z.post_of ⟨rfl, rfl⟩ (by repeat (first | with_reducible exact Z.Takes.nil | (apply Z.Takes.cons; (repeat (first | with_reducible exact Z.Take.here | apply Z.Take.there))))) (by repeat (first | with_reducible exact Z.Drop.nil | apply Z.Drop.cons))) | (rw [put_zl (by omega) hc38]; exact Z.post_of ⟨rfl, rfl⟩ (by repeat (first | with_reducible exact Z.Takes.nil | (apply Z.Takes.cons; (repeat (first | with_reducible exact Z.Take.here | apply Z.Take.there))))) (by repeat (first | with_reducible exact Z.Drop.nil | apply Z.Drop.cons))) | (rw [put_sr (by omega) hc38]; exact Z.post_of ⟨rfl, rfl⟩ (by repeat (first | with_reducible exact Z.Takes.nil | (apply Z.Takes.cons; (repeat (first | with_reducible exact Z.Take.here | apply Z.Take.there))))) (by repeat (first | with_reducible exact Z.Drop.nil | apply Z.Drop.cons))) | (rw [put_sl (by omega) hc38]; exact Z.post_of ⟨rfl, rfl⟩ (by repeat (first | with_reducible exact Z.Takes.nil | (apply Z.Takes.cons; (repeat (first | with_reducible exact Z.Take.here | apply Z.Take.there))))) (by repeat (first | with_reducible exact Z.Drop.nil | apply Z.Drop.cons)))
  · try (with_reducible first | replace hc13 := of_decide_eq_true hc13 | replace hc13 := of_decide_eq_false hc13 | replace hc13 := Z.nd_true hc13 | replace hc13 := Z.nd_false hc13 | replace hc13 := Z.nn_true hc13 | replace hc13 := Z.nn_false hc13 | replace hc13 := Z.nb_true hc13 | replace hc13 := Z.nb_false hc13)
    first
    | (exfalso; first | (cases hc13; done) | omega)
    | skip
      refine Z.j_skip ?_
      refine Z.j_then ?_
      refine Z.j_seq ?_
      refine Z.j_region ?_
      refine Z.s_val (Z.pv_move rfl) ?_
      refine Z.s_val (Z.pv_move rfl) ?_
      refine Z.s_callD rfl rfl rfl isFn27 (by repeat (first | with_reducible exact Z.Takes.nil | (apply Z.Takes.cons; (repeat (first | with_reducible exact Z.Take.here | apply Z.Take.there))))) (by repeat (first | exact Z.App.nil | apply Z.App.cons)) (push_spec _ _ _ _ _ _ (by assumption) (by omega)) ?_
      refine Z.s_alloc Try.zeroValue69 (fun b11 => ?_)
      refine Z.s_storeA rfl rfl Try.sizeOf69 rfl (by repeat (first | with_reducible exact Z.Upd.here | apply Z.Upd.there)) (by rfl) ?_
      refine Z.j_nil ?_
      refine Z.j_then ?_
      refine Z.j_seq ?_
      refine Z.j_seq ?_
      refine Z.j_region ?_
      refine Z.s_val (Z.pv_move rfl) ?_
      refine Z.s_val (Z.pv_eql rfl rfl) ?_
      refine Z.j_nil ?_
      refine Z.j_then ?_
      refine Z.j_cond rfl (fun hc26 => ?_) (fun hc26 => ?_)
      · exfalso; first | (cases hc26; done) | (simp at hc26; done) | (simp at hc26; omega)
      · try (with_reducible first | replace hc26 := of_decide_eq_true hc26 | replace hc26 := of_decide_eq_false hc26 | replace hc26 := Z.nd_true hc26 | replace hc26 := Z.nd_false hc26 | replace hc26 := Z.nn_true hc26 | replace hc26 := Z.nn_false hc26 | replace hc26 := Z.nb_true hc26 | replace hc26 := Z.nb_false hc26)
        first
        | (exfalso; first | (cases hc26; done) | omega)
        | skip
          refine Z.j_skip ?_
          refine Z.j_then ?_
          refine Z.j_seq ?_
          refine Z.j_seq ?_
          refine Z.j_region ?_
          refine Z.s_val (Z.pv_move rfl) ?_
          refine Z.s_val (Z.pv_move rfl) ?_
          refine Z.s_callD rfl rfl rfl isFn29 (by repeat (first | with_reducible exact Z.Takes.nil | (apply Z.Takes.cons; (repeat (first | with_reducible exact Z.Take.here | apply Z.Take.there))))) (by repeat (first | exact Z.App.nil | apply Z.App.cons)) (right_spec _ _ _ (by omega) (by omega) (by assumption)) ?_
          refine Z.j_nil ?_
          refine Z.j_then ?_
          refine Z.j_cond rfl (fun hc38 => ?_) (fun hc38 => ?_)
          · try (with_reducible first | replace hc38 := of_decide_eq_true hc38 | replace hc38 := of_decide_eq_false hc38 | replace hc38 := Z.nd_true hc38 | replace hc38 := Z.nd_false hc38 | replace hc38 := Z.nn_true hc38 | replace hc38 := Z.nn_false hc38 | replace hc38 := Z.nb_true hc38 | replace hc38 := Z.nb_false hc38)
            first
            | (exfalso; first | (cases hc38; done) | omega)
            | skip
              refine Z.j_region ?_
              refine Z.s_val (Z.pv_move rfl) ?_
              refine Z.s_val (Z.pv_fieldAddr (o' := 1) rfl Try.underlying69 rfl Try.sizeOf21 rfl) ?_
              refine Z.s_val (Z.pv_load1 rfl (by repeat (first | with_reducible exact Z.Take.here | apply Z.Take.there)) Try.isAgg21 (by rfl)) ?_
              refine Z.s_val (Z.pv_move rfl) ?_
              refine Z.s_val (Z.pv_sub (c := (h : Int)) rfl rfl (by rw [show ((h + 1 : Nat) : Int) - 1 = h by omega]; exact IntWalk.i64_in _ (by omega))) ?_
              refine Z.s_val (Z.pv_move rfl) ?_
              refine Z.s_val (Z.pv_loadA rfl (by repeat (first | with_reducible exact Z.Take.here | apply Z.Take.there)) Try.isAgg41 Try.sizeOf41 (by rfl)) ?_
              refine Z.s_callD rfl rfl rfl isFn17 (by repeat (first | with_reducible exact Z.Takes.nil | (apply Z.Takes.cons; (repeat (first | with_reducible exact Z.Take.here | apply Z.Take.there))))) (by repeat (first | exact Z.App.nil | apply Z.App.cons)) (ih _ _ _ (by assumption) (by omega)) ?_
              refine Z.s_val (Z.pv_fieldAddr (o' := 1) rfl Try.underlying69 rfl Try.sizeOf21 rfl) ?_
              refine Z.s_store1 rfl rfl (by first | rfl | assumption) Try.sizeOf21 (by repeat (first | with_reducible exact Z.Upd.here | apply Z.Upd.there)) (by rfl) ?_
              refine Z.j_nil ?_
              refine Z.j_then ?_
              refine Z.j_seq ?_
              refine Z.j_region ?_
              refine Z.s_val (Z.pv_move rfl) ?_
              refine Z.s_val (Z.pv_move rfl) ?_
              refine Z.s_val (Z.pv_loadA rfl (by repeat (first | with_reducible exact Z.Take.here | apply Z.Take.there)) Try.isAgg69 Try.sizeOf69 (by rfl)) ?_
              refine Z.s_callD rfl rfl rfl isFn30 (by repeat (first | with_reducible exact Z.Takes.nil | (apply Z.Takes.cons; (repeat (first | with_reducible exact Z.Take.here | apply Z.Take.there))))) (by repeat (first | exact Z.App.nil | apply Z.App.cons)) (joinx_spec _ _ _ _ _ _ _ _ _ _ _ _ _ (by omega) (by omega)) ?_
              refine Z.j_nil ?_
              refine Z.j_then ?_
              refine Z.j_seq ?_
              refine Z.j_region ?_
              refine Z.s_val (Z.pv_move rfl) ?_
              refine Z.s_val (Z.pv_assign rfl) ?_
              refine Z.j_nil ?_
              refine Z.j_then ?_
              refine Z.j_ret ?_
              refine Z.j_done_ret (Z.rv1 (Z.rv_tmp (t := 10) rfl)) ?_
              first | (rw [put_zr (by omega) hc38]; exact Z.post_of ⟨rfl, rfl⟩ (by repeat (first | with_reducible exact Z.Takes.nil | (apply Z.Takes.cons; (repeat (first | with_reducible exact Z.Take.here | apply Z.Take.there))))) (by repeat (first | with_reducible exact Z.Drop.nil | apply Z.Drop.cons))) | (rw [put_zl (by omega) hc38]; exact Z.post_of ⟨rfl, rfl⟩ (by repeat (first | with_reducible exact Z.Takes.nil | (apply Z.Takes.cons; (repeat (first | with_reducible exact Z.Take.here | apply Z.Take.there))))) (by repeat (first | with_reducible exact Z.Drop.nil | apply Z.Drop.cons))) | (rw [put_sr (by omega) hc38]; exact Z.post_of ⟨rfl, rfl⟩ (by repeat (first | with_reducible exact Z.Takes.nil | (apply Z.Takes.cons; (repeat (first | with_reducible exact Z.Take.here | apply Z.Take.there))))) (by repeat (first | with_reducible exact Z.Drop.nil | apply Z.Drop.cons))) | (rw [put_sl (by omega) hc38]; exact Z.post_of ⟨rfl, rfl⟩ (by repeat (first | with_reducible exact Z.Takes.nil | (apply Z.Takes.cons; (repeat (first | with_reducible exact Z.Take.here | apply Z.Take.there))))) (by repeat (first | with_reducible exact Z.Drop.nil | apply Z.Drop.cons)))
          · try (with_reducible first | replace hc38 := of_decide_eq_true hc38 | replace hc38 := of_decide_eq_false hc38 | replace hc38 := Z.nd_true hc38 | replace hc38 := Z.nd_false hc38 | replace hc38 := Z.nn_true hc38 | replace hc38 := Z.nn_false hc38 | replace hc38 := Z.nb_true hc38 | replace hc38 := Z.nb_false hc38)
            first
            | (exfalso; first | (cases hc38; done) | omega)
            | skip
              refine Z.j_region ?_
              refine Z.s_val (Z.pv_move rfl) ?_
              refine Z.s_val (Z.pv_fieldAddr (o' := 0) rfl Try.underlying69 rfl Try.sizeOf21 rfl) ?_
              refine Z.s_val (Z.pv_load1 rfl (by repeat (first | with_reducible exact Z.Take.here | apply Z.Take.there)) Try.isAgg21 (by rfl)) ?_
              refine Z.s_val (Z.pv_move rfl) ?_
              refine Z.s_val (Z.pv_sub (c := (h : Int)) rfl rfl (by rw [show ((h + 1 : Nat) : Int) - 1 = h by omega]; exact IntWalk.i64_in _ (by omega))) ?_
              refine Z.s_val (Z.pv_move rfl) ?_
              refine Z.s_val (Z.pv_loadA rfl (by repeat (first | with_reducible exact Z.Take.here | apply Z.Take.there)) Try.isAgg41 Try.sizeOf41 (by rfl)) ?_
              refine Z.s_callD rfl rfl rfl isFn17 (by repeat (first | with_reducible exact Z.Takes.nil | (apply Z.Takes.cons; (repeat (first | with_reducible exact Z.Take.here | apply Z.Take.there))))) (by repeat (first | exact Z.App.nil | apply Z.App.cons)) (ih _ _ _ (by assumption) (by omega)) ?_
              refine Z.s_val (Z.pv_fieldAddr (o' := 0) rfl Try.underlying69 rfl Try.sizeOf21 rfl) ?_
              refine Z.s_store1 rfl rfl (by first | rfl | assumption) Try.sizeOf21 (by repeat (first | with_reducible exact Z.Upd.here | apply Z.Upd.there)) (by rfl) ?_
              refine Z.j_nil ?_
              refine Z.j_then ?_
              refine Z.j_seq ?_
              refine Z.j_region ?_
              refine Z.s_val (Z.pv_move rfl) ?_
              refine Z.s_val (Z.pv_move rfl) ?_
              refine Z.s_val (Z.pv_loadA rfl (by repeat (first | with_reducible exact Z.Take.here | apply Z.Take.there)) Try.isAgg69 Try.sizeOf69 (by rfl)) ?_
              refine Z.s_callD rfl rfl rfl isFn30 (by repeat (first | with_reducible exact Z.Takes.nil | (apply Z.Takes.cons; (repeat (first | with_reducible exact Z.Take.here | apply Z.Take.there))))) (by repeat (first | exact Z.App.nil | apply Z.App.cons)) (joinx_spec _ _ _ _ _ _ _ _ _ _ _ _ _ (by omega) (by omega)) ?_
              refine Z.j_nil ?_
              refine Z.j_then ?_
              refine Z.j_seq ?_
              refine Z.j_region ?_
              refine Z.s_val (Z.pv_move rfl) ?_
              refine Z.s_val (Z.pv_assign rfl) ?_
              refine Z.j_nil ?_
              refine Z.j_then ?_
              refine Z.j_ret ?_
              refine Z.j_done_ret (Z.rv1 (Z.rv_tmp (t := 10) rfl)) ?_
              first | (rw [put_zr (by omega) hc38]; exact Z.post_of ⟨rfl, rfl⟩ (by repeat (first | with_reducible exact Z.Takes.nil | (apply Z.Takes.cons; (repeat (first | with_reducible exact Z.Take.here | apply Z.Take.there))))) (by repeat (first | with_reducible exact Z.Drop.nil | apply Z.Drop.cons))) | (rw [put_zl (by omega) hc38]; exact Z.post_of ⟨rfl, rfl⟩ (by repeat (first | with_reducible exact Z.Takes.nil | (apply Z.Takes.cons; (repeat (first | with_reducible exact Z.Take.here | apply Z.Take.there))))) (by repeat (first | with_reducible exact Z.Drop.nil | apply Z.Drop.cons))) | (rw [put_sr (by omega) hc38]; exact Z.post_of ⟨rfl, rfl⟩ (by repeat (first | with_reducible exact Z.Takes.nil | (apply Z.Takes.cons; (repeat (first | with_reducible exact Z.Take.here | apply Z.Take.there))))) (by repeat (first | with_reducible exact Z.Drop.nil | apply Z.Drop.cons))) | (rw [put_sl (by omega) hc38]; exact Z.post_of ⟨rfl, rfl⟩ (by repeat (first | with_reducible exact Z.Takes.nil | (apply Z.Takes.cons; (repeat (first | with_reducible exact Z.Take.here | apply Z.Take.there))))) (by repeat (first | with_reducible exact Z.Drop.nil | apply Z.Drop.cons)))


theorem set_all (tb ab : Nat) (r key : Int) (a : Agg) (hk : 0 ≤ key ∧ key < 4294967296) (h : Nat) : h ≤ 32 → ∀ w0 A i, A.ok → (0 ≤ i ∧ i ≤ 4194304) → Z.FnD Try.prog w0 17 [.pointer (some ⟨tb, 0, none⟩), .int .i32 i, .int .i64 h, .int .u32 key, .agg a.l.toArray] [Z.cl tb 52 [.pointer (some ⟨ab, 0, none⟩), .int .i32 r], Arena ab A] (.int .i32 (A.put key a h i).1) [Z.cl tb 52 [.pointer (some ⟨ab, 0, none⟩), .int .i32 r], Arena ab (A.put key a h i).2] := by
  induction h with
  | zero => intro _ w0 A i hA hi; exact set0_spec w0 tb ab r A key a i hA hi hk
  | succ h ih => intro hh w0 A i hA hi; exact set1_spec w0 tb ab r A key a i hA hi hk h hh (ih (by omega))

end Go.Proofs.Ytggndcaehjdklaa
