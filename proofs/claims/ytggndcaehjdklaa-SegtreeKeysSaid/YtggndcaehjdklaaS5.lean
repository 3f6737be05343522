/- Segtree: the tree's folding and cutting. -/
import Derived.Test.YtggndcaehjdklaaS4
namespace Go.Proofs.Ytggndcaehjdklaa
open Go Go.RowKit
set_option maxHeartbeats 4000000 in
set_option maxRecDepth 100000 in
theorem fold0_spec (w0 : World) (tb ab : Nat) (r : Int) (A : Ar) (s t i lo : Int) (hA : A.ok) (hi : 0 ≤ i ∧ i ≤ 4194304) (h0 : 0 ≤ lo) (h1 : lo + pw 0 ≤ 4294967296) : Z.FnD Try.prog w0 21 [.pointer (some ⟨tb, 0, none⟩), .int .i32 i, .agg #[.int .u32 lo, .int .i64 0], .agg #[.int .u32 s, .int .u32 t]] [Z.cl tb 52 [.pointer (some ⟨ab, 0, none⟩), .int .i32 r], Arena ab A] (.agg (Ar.fold s t 0 A i lo).1.l.toArray) [Z.cl tb 52 [.pointer (some ⟨ab, 0, none⟩), .int .i32 r], Arena ab (Ar.fold s t 0 A i lo).2] := by
  obtain ⟨⟨hl1, hl2⟩, hl3, hl4⟩ := get_ok hA i
  refine Z.Fn.fnD ?_
  refine Z.fn_enter (n := 50) Try.func21 rfl (by rfl) (by rfl) (fun Fr => ?_)
  refine Z.j_app (by repeat (first | exact Z.App.nil | apply Z.App.cons)) ?_
  refine Z.j_seq ?_
  refine Z.j_region ?_
  refine Z.s_box rfl (fun b6 => ?_)
  refine Z.s_box rfl (fun b7 => ?_)
  refine Z.s_alloc Try.zeroValue41 (fun b8 => ?_)
  refine Z.j_nil ?_
  refine Z.j_then ?_
  refine Z.j_seq ?_
  refine Z.j_block ?_
  refine Z.j_seq ?_
  refine Z.j_region ?_
  refine Z.s_val (Z.pv_move rfl) ?_
  refine Z.s_val (Z.pv_eql rfl rfl) ?_
  refine Z.s_val (Z.pv_move rfl) ?_
  refine Z.s_split 15 rfl (fun hg15 => ?_) (fun hg15 => ?_)
  · try (with_reducible first | replace hg15 := of_decide_eq_true hg15 | replace hg15 := of_decide_eq_false hg15 | replace hg15 := Z.nd_true hg15 | replace hg15 := Z.nd_false hg15 | replace hg15 := Z.nn_true hg15 | replace hg15 := Z.nn_false hg15 | replace hg15 := Z.nb_true hg15 | replace hg15 := Z.nb_false hg15)
    first
    | (exfalso; first | (cases hg15; done) | omega)
    | skip
      refine Z.s_skip ?_
      refine Z.s_skip ?_
      refine Z.s_skip ?_
      refine Z.s_val (Z.pv_pick rfl rfl) ?_
      refine Z.s_val (Z.pv_assign rfl) ?_
      refine Z.j_nil ?_
      refine Z.j_then ?_
      refine Z.j_cond rfl (fun hc12 => ?_) (fun hc12 => ?_)
      · try (with_reducible first | replace hc12 := of_decide_eq_true hc12 | replace hc12 := of_decide_eq_false hc12 | replace hc12 := Z.nd_true hc12 | replace hc12 := Z.nd_false hc12 | replace hc12 := Z.nn_true hc12 | replace hc12 := Z.nn_false hc12 | replace hc12 := Z.nb_true hc12 | replace hc12 := Z.nb_false hc12)
        first
        | (exfalso; first | (cases hc12; done) | omega)
        | skip
          refine Z.j_seq ?_
          refine Z.j_region ?_
          refine Z.s_val (Z.pv_build rfl Try.zeroValue41 pl41 rfl) ?_
          refine Z.s_storeA rfl rfl Try.sizeOf41 rfl (by repeat (first | with_reducible exact Z.Upd.here | apply Z.Upd.there)) (by rfl) ?_
          refine Z.j_nil ?_
          refine Z.j_then ?_
          refine Z.j_ret ?_
          refine Z.j_blk_ret ?_
          refine Z.j_then_ret ?_
          refine Z.j_done_ret (Z.rv1 (Z.rv_cellA (x := 8) (T := 41) rfl (by repeat (first | with_reducible exact Z.Take.here | apply Z.Take.there)) Try.isAgg41 Try.sizeOf41 (by rfl))) ?_
          first | (exfalso; exact io_0 hc12 hc21) | (rw [fold_z (by omega)]; exact Z.post_of ⟨rfl, rfl⟩ (by repeat (first | with_reducible exact Z.Takes.nil | (apply Z.Takes.cons; (repeat (first | with_reducible exact Z.Take.here | apply Z.Take.there))))) (by repeat (first | with_reducible exact Z.Drop.nil | apply Z.Drop.cons))) | (rw [fold_o hc12]; exact Z.post_of ⟨rfl, rfl⟩ (by repeat (first | with_reducible exact Z.Takes.nil | (apply Z.Takes.cons; (repeat (first | with_reducible exact Z.Take.here | apply Z.Take.there))))) (by repeat (first | with_reducible exact Z.Drop.nil | apply Z.Drop.cons))) | (rw [fold_i (by omega) hc12 hc21]; exact Z.post_of ⟨rfl, rfl⟩ (by repeat (first | with_reducible exact Z.Takes.nil | (apply Z.Takes.cons; (repeat (first | with_reducible exact Z.Take.here | apply Z.Take.there))))) (by repeat (first | with_reducible exact Z.Drop.nil | apply Z.Drop.cons)))
      · try (with_reducible first | replace hc12 := of_decide_eq_true hc12 | replace hc12 := of_decide_eq_false hc12 | replace hc12 := Z.nd_true hc12 | replace hc12 := Z.nd_false hc12 | replace hc12 := Z.nn_true hc12 | replace hc12 := Z.nn_false hc12 | replace hc12 := Z.nb_true hc12 | replace hc12 := Z.nb_false hc12)
        first
        | (exfalso; first | (cases hc12; done) | omega)
        | skip
          refine Z.j_seq ?_
          refine Z.j_region ?_
          refine Z.s_val (Z.pv_loadA rfl (by repeat (first | with_reducible exact Z.Take.here | apply Z.Take.there)) Try.isAgg61 Try.sizeOf61 (by rfl)) ?_
          refine Z.s_val (Z.pv_loadA rfl (by repeat (first | with_reducible exact Z.Take.here | apply Z.Take.there)) Try.isAgg44 Try.sizeOf44 (by rfl)) ?_
          refine Z.s_callD rfl rfl rfl isFn34 (by repeat (first | with_reducible exact Z.Takes.nil | (apply Z.Takes.cons; (repeat (first | with_reducible exact Z.Take.here | apply Z.Take.there))))) (by repeat (first | exact Z.App.nil | apply Z.App.cons)) (inside_spec _ _ 0 (by omega) (by omega) (by omega) _ _) ?_
          refine Z.s_val (Z.pv_assign rfl) ?_
          refine Z.j_nil ?_
          refine Z.j_then ?_
          refine Z.j_cond rfl (fun hc21 => ?_) (fun hc21 => ?_)
          · try (with_reducible first | replace hc21 := of_decide_eq_true hc21 | replace hc21 := of_decide_eq_false hc21 | replace hc21 := Z.nd_true hc21 | replace hc21 := Z.nd_false hc21 | replace hc21 := Z.nn_true hc21 | replace hc21 := Z.nn_false hc21 | replace hc21 := Z.nb_true hc21 | replace hc21 := Z.nb_false hc21)
            first
            | (exfalso; first | (cases hc21; done) | omega)
            | skip
              refine Z.j_seq ?_
              refine Z.j_region ?_
              refine Z.s_val (Z.pv_move rfl) ?_
              refine Z.s_val (Z.pv_move rfl) ?_
              refine Z.s_callD rfl rfl rfl isFn25 (by repeat (first | with_reducible exact Z.Takes.nil | (apply Z.Takes.cons; (repeat (first | with_reducible exact Z.Take.here | apply Z.Take.there))))) (by repeat (first | exact Z.App.nil | apply Z.App.cons)) (at_spec _ _ _ _ _ _ (by omega)) ?_
              refine Z.s_val (Z.pv_fieldA rfl Try.underlying69 rfl Try.isAgg41 Try.sizeOf41 rfl) ?_
              refine Z.s_storeA rfl rfl Try.sizeOf41 rfl (by repeat (first | with_reducible exact Z.Upd.here | apply Z.Upd.there)) (by rfl) ?_
              refine Z.j_nil ?_
              refine Z.j_then ?_
              refine Z.j_ret ?_
              refine Z.j_blk_ret ?_
              refine Z.j_then_ret ?_
              refine Z.j_done_ret (Z.rv1 (Z.rv_cellA (x := 8) (T := 41) rfl (by repeat (first | with_reducible exact Z.Take.here | apply Z.Take.there)) Try.isAgg41 Try.sizeOf41 (by rfl))) ?_
              first | (exfalso; exact io_0 hc12 hc21) | (rw [fold_z (by omega)]; exact Z.post_of ⟨rfl, rfl⟩ (by repeat (first | with_reducible exact Z.Takes.nil | (apply Z.Takes.cons; (repeat (first | with_reducible exact Z.Take.here | apply Z.Take.there))))) (by repeat (first | with_reducible exact Z.Drop.nil | apply Z.Drop.cons))) | (rw [fold_o hc12]; exact Z.post_of ⟨rfl, rfl⟩ (by repeat (first | with_reducible exact Z.Takes.nil | (apply Z.Takes.cons; (repeat (first | with_reducible exact Z.Take.here | apply Z.Take.there))))) (by repeat (first | with_reducible exact Z.Drop.nil | apply Z.Drop.cons))) | (rw [fold_i (by omega) hc12 hc21]; exact Z.post_of ⟨rfl, rfl⟩ (by repeat (first | with_reducible exact Z.Takes.nil | (apply Z.Takes.cons; (repeat (first | with_reducible exact Z.Take.here | apply Z.Take.there))))) (by repeat (first | with_reducible exact Z.Drop.nil | apply Z.Drop.cons)))
          · try (with_reducible first | replace hc21 := of_decide_eq_true hc21 | replace hc21 := of_decide_eq_false hc21 | replace hc21 := Z.nd_true hc21 | replace hc21 := Z.nd_false hc21 | replace hc21 := Z.nn_true hc21 | replace hc21 := Z.nn_false hc21 | replace hc21 := Z.nb_true hc21 | replace hc21 := Z.nb_false hc21)
            exact (io_0 hc12 hc21).elim
  · try (with_reducible first | replace hg15 := of_decide_eq_true hg15 | replace hg15 := of_decide_eq_false hg15 | replace hg15 := Z.nd_true hg15 | replace hg15 := Z.nd_false hg15 | replace hg15 := Z.nn_true hg15 | replace hg15 := Z.nn_false hg15 | replace hg15 := Z.nb_true hg15 | replace hg15 := Z.nb_false hg15)
    first
    | (exfalso; first | (cases hg15; done) | omega)
    | skip
      refine Z.s_val (Z.pv_loadA rfl (by repeat (first | with_reducible exact Z.Take.here | apply Z.Take.there)) Try.isAgg61 Try.sizeOf61 (by rfl)) ?_
      refine Z.s_val (Z.pv_loadA rfl (by repeat (first | with_reducible exact Z.Take.here | apply Z.Take.there)) Try.isAgg44 Try.sizeOf44 (by rfl)) ?_
      refine Z.s_callD rfl rfl rfl isFn33 (by repeat (first | with_reducible exact Z.Takes.nil | (apply Z.Takes.cons; (repeat (first | with_reducible exact Z.Take.here | apply Z.Take.there))))) (by repeat (first | exact Z.App.nil | apply Z.App.cons)) (outside_spec _ _ 0 (by omega) (by omega) (by omega) _ _) ?_
      refine Z.s_val (Z.pv_pick rfl rfl) ?_
      refine Z.s_val (Z.pv_assign rfl) ?_
      refine Z.j_nil ?_
      refine Z.j_then ?_
      refine Z.j_cond rfl (fun hc12 => ?_) (fun hc12 => ?_)
      · try (with_reducible first | replace hc12 := of_decide_eq_true hc12 | replace hc12 := of_decide_eq_false hc12 | replace hc12 := Z.nd_true hc12 | replace hc12 := Z.nd_false hc12 | replace hc12 := Z.nn_true hc12 | replace hc12 := Z.nn_false hc12 | replace hc12 := Z.nb_true hc12 | replace hc12 := Z.nb_false hc12)
        first
        | (exfalso; first | (cases hc12; done) | omega)
        | skip
          refine Z.j_seq ?_
          refine Z.j_region ?_
          refine Z.s_val (Z.pv_build rfl Try.zeroValue41 pl41 rfl) ?_
          refine Z.s_storeA rfl rfl Try.sizeOf41 rfl (by repeat (first | with_reducible exact Z.Upd.here | apply Z.Upd.there)) (by rfl) ?_
          refine Z.j_nil ?_
          refine Z.j_then ?_
          refine Z.j_ret ?_
          refine Z.j_blk_ret ?_
          refine Z.j_then_ret ?_
          refine Z.j_done_ret (Z.rv1 (Z.rv_cellA (x := 8) (T := 41) rfl (by repeat (first | with_reducible exact Z.Take.here | apply Z.Take.there)) Try.isAgg41 Try.sizeOf41 (by rfl))) ?_
          first | (exfalso; exact io_0 hc12 hc21) | (rw [fold_z (by omega)]; exact Z.post_of ⟨rfl, rfl⟩ (by repeat (first | with_reducible exact Z.Takes.nil | (apply Z.Takes.cons; (repeat (first | with_reducible exact Z.Take.here | apply Z.Take.there))))) (by repeat (first | with_reducible exact Z.Drop.nil | apply Z.Drop.cons))) | (rw [fold_o hc12]; exact Z.post_of ⟨rfl, rfl⟩ (by repeat (first | with_reducible exact Z.Takes.nil | (apply Z.Takes.cons; (repeat (first | with_reducible exact Z.Take.here | apply Z.Take.there))))) (by repeat (first | with_reducible exact Z.Drop.nil | apply Z.Drop.cons))) | (rw [fold_i (by omega) hc12 hc21]; exact Z.post_of ⟨rfl, rfl⟩ (by repeat (first | with_reducible exact Z.Takes.nil | (apply Z.Takes.cons; (repeat (first | with_reducible exact Z.Take.here | apply Z.Take.there))))) (by repeat (first | with_reducible exact Z.Drop.nil | apply Z.Drop.cons)))
      · try (with_reducible first | replace hc12 := of_decide_eq_true hc12 | replace hc12 := of_decide_eq_false hc12 | replace hc12 := Z.nd_true hc12 | replace hc12 := Z.nd_false hc12 | replace hc12 := Z.nn_true hc12 | replace hc12 := Z.nn_false hc12 | replace hc12 := Z.nb_true hc12 | replace hc12 := Z.nb_false hc12)
        first
        | (exfalso; first | (cases hc12; done) | omega)
        | skip
          refine Z.j_seq ?_
          refine Z.j_region ?_
          refine Z.s_val (Z.pv_loadA rfl (by repeat (first | with_reducible exact Z.Take.here | apply Z.Take.there)) Try.isAgg61 Try.sizeOf61 (by rfl)) ?_
          refine Z.s_val (Z.pv_loadA rfl (by repeat (first | with_reducible exact Z.Take.here | apply Z.Take.there)) Try.isAgg44 Try.sizeOf44 (by rfl)) ?_
          refine Z.s_callD rfl rfl rfl isFn34 (by repeat (first | with_reducible exact Z.Takes.nil | (apply Z.Takes.cons; (repeat (first | with_reducible exact Z.Take.here | apply Z.Take.there))))) (by repeat (first | exact Z.App.nil | apply Z.App.cons)) (inside_spec _ _ 0 (by omega) (by omega) (by omega) _ _) ?_
          refine Z.s_val (Z.pv_assign rfl) ?_
          refine Z.j_nil ?_
          refine Z.j_then ?_
          refine Z.j_cond rfl (fun hc21 => ?_) (fun hc21 => ?_)
          · try (with_reducible first | replace hc21 := of_decide_eq_true hc21 | replace hc21 := of_decide_eq_false hc21 | replace hc21 := Z.nd_true hc21 | replace hc21 := Z.nd_false hc21 | replace hc21 := Z.nn_true hc21 | replace hc21 := Z.nn_false hc21 | replace hc21 := Z.nb_true hc21 | replace hc21 := Z.nb_false hc21)
            first
            | (exfalso; first | (cases hc21; done) | omega)
            | skip
              refine Z.j_seq ?_
              refine Z.j_region ?_
              refine Z.s_val (Z.pv_move rfl) ?_
              refine Z.s_val (Z.pv_move rfl) ?_
              refine Z.s_callD rfl rfl rfl isFn25 (by repeat (first | with_reducible exact Z.Takes.nil | (apply Z.Takes.cons; (repeat (first | with_reducible exact Z.Take.here | apply Z.Take.there))))) (by repeat (first | exact Z.App.nil | apply Z.App.cons)) (at_spec _ _ _ _ _ _ (by omega)) ?_
              refine Z.s_val (Z.pv_fieldA rfl Try.underlying69 rfl Try.isAgg41 Try.sizeOf41 rfl) ?_
              refine Z.s_storeA rfl rfl Try.sizeOf41 rfl (by repeat (first | with_reducible exact Z.Upd.here | apply Z.Upd.there)) (by rfl) ?_
              refine Z.j_nil ?_
              refine Z.j_then ?_
              refine Z.j_ret ?_
              refine Z.j_blk_ret ?_
              refine Z.j_then_ret ?_
              refine Z.j_done_ret (Z.rv1 (Z.rv_cellA (x := 8) (T := 41) rfl (by repeat (first | with_reducible exact Z.Take.here | apply Z.Take.there)) Try.isAgg41 Try.sizeOf41 (by rfl))) ?_
              first | (exfalso; exact io_0 hc12 hc21) | (rw [fold_z (by omega)]; exact Z.post_of ⟨rfl, rfl⟩ (by repeat (first | with_reducible exact Z.Takes.nil | (apply Z.Takes.cons; (repeat (first | with_reducible exact Z.Take.here | apply Z.Take.there))))) (by repeat (first | with_reducible exact Z.Drop.nil | apply Z.Drop.cons))) | (rw [fold_o hc12]; exact Z.post_of ⟨rfl, rfl⟩ (by repeat (first | with_reducible exact Z.Takes.nil | (apply Z.Takes.cons; (repeat (first | with_reducible exact Z.Take.here | apply Z.Take.there))))) (by repeat (first | with_reducible exact Z.Drop.nil | apply Z.Drop.cons))) | (rw [fold_i (by omega) hc12 hc21]; exact Z.post_of ⟨rfl, rfl⟩ (by repeat (first | with_reducible exact Z.Takes.nil | (apply Z.Takes.cons; (repeat (first | with_reducible exact Z.Take.here | apply Z.Take.there))))) (by repeat (first | with_reducible exact Z.Drop.nil | apply Z.Drop.cons)))
          · try (with_reducible first | replace hc21 := of_decide_eq_true hc21 | replace hc21 := of_decide_eq_false hc21 | replace hc21 := Z.nd_true hc21 | replace hc21 := Z.nd_false hc21 | replace hc21 := Z.nn_true hc21 | replace hc21 := Z.nn_false hc21 | replace hc21 := Z.nb_true hc21 | replace hc21 := Z.nb_false hc21)
            exact (io_0 hc12 hc21).elim

set_option maxHeartbeats 4000000 in
set_option maxRecDepth 100000 in
theorem fold1_spec (w0 : World) (tb ab : Nat) (r : Int) (A : Ar) (s t i lo : Int) (hA : A.ok) (hi : 0 ≤ i ∧ i ≤ 4194304) (h0 : 0 ≤ lo) (h : Nat) (hh : h + 1 ≤ 32) (h1 : lo + pw (h + 1) ≤ 4294967296) (ih : ∀ w0 A i lo, A.ok → (0 ≤ i ∧ i ≤ 4194304) → 0 ≤ lo → lo + pw h ≤ 4294967296 → Z.FnD Try.prog w0 21 [.pointer (some ⟨tb, 0, none⟩), .int .i32 i, .agg #[.int .u32 lo, .int .i64 h], .agg #[.int .u32 s, .int .u32 t]] [Z.cl tb 52 [.pointer (some ⟨ab, 0, none⟩), .int .i32 r], Arena ab A] (.agg (Ar.fold s t h A i lo).1.l.toArray) [Z.cl tb 52 [.pointer (some ⟨ab, 0, none⟩), .int .i32 r], Arena ab (Ar.fold s t h A i lo).2]) : Z.FnD Try.prog w0 21 [.pointer (some ⟨tb, 0, none⟩), .int .i32 i, .agg #[.int .u32 lo, .int .i64 ((h + 1) : Nat)], .agg #[.int .u32 s, .int .u32 t]] [Z.cl tb 52 [.pointer (some ⟨ab, 0, none⟩), .int .i32 r], Arena ab A] (.agg (Ar.fold s t (h + 1) A i lo).1.l.toArray) [Z.cl tb 52 [.pointer (some ⟨ab, 0, none⟩), .int .i32 r], Arena ab (Ar.fold s t (h + 1) A i lo).2] := by
  have hP := pushed_ok (i := i) hA
  obtain ⟨⟨hl1, hl2⟩, hl3, hl4⟩ := node_ok (i := i) hA
  have hw := pw_succ h
  have hw0 := pw_pos h
  have hN := fold_ok s t h _ (A.node i).l lo hP
  have hN2 := fold_ok s t h _ (A.node i).r (lo + pw h) hN
  refine Z.Fn.fnD ?_
  refine Z.fn_enter (n := 50) Try.func21 rfl (by rfl) (by rfl) (fun Fr => ?_)
  refine Z.j_app (by repeat (first | exact Z.App.nil | apply Z.App.cons)) ?_
  refine Z.j_seq ?_
  refine Z.j_region ?_
  refine Z.s_box rfl (fun b6 => ?_)
  refine Z.s_box rfl (fun b7 => ?_)
  refine Z.s_alloc Try.zeroValue41 (fun b8 => ?_)
  refine Z.j_nil ?_
  refine Z.j_then ?_
  refine Z.j_seq ?_
  refine Z.j_block ?_
  refine Z.j_seq ?_
  refine Z.j_region ?_
  refine Z.s_val (Z.pv_move rfl) ?_
  refine Z.s_val (Z.pv_eql rfl rfl) ?_
  refine Z.s_val (Z.pv_move rfl) ?_
  refine Z.s_split 15 rfl (fun hg15 => ?_) (fun hg15 => ?_)
  · try (with_reducible first | replace hg15 := of_decide_eq_true hg15 | replace hg15 := of_decide_eq_false hg15 | replace hg15 := Z.nd_true hg15 | replace hg15 := Z.nd_false hg15 | replace hg15 := Z.nn_true hg15 | replace hg15 := Z.nn_false hg15 | replace hg15 := Z.nb_true hg15 | replace hg15 := Z.nb_false hg15)
    first
    | (exfalso; first | (cases hg15; done) | omega)
    | skip
      refine Z.s_skip ?_
      refine Z.s_skip ?_
      refine Z.s_skip ?_
      refine Z.s_val (Z.pv_pick rfl rfl) ?_
      refine Z.s_val (Z.pv_assign rfl) ?_
      refine Z.j_nil ?_
      refine Z.j_then ?_
      refine Z.j_cond rfl (fun hc12 => ?_) (fun hc12 => ?_)
      · try (with_reducible first | replace hc12 := of_decide_eq_true hc12 | replace hc12 := of_decide_eq_false hc12 | replace hc12 := Z.nd_true hc12 | replace hc12 := Z.nd_false hc12 | replace hc12 := Z.nn_true hc12 | replace hc12 := Z.nn_false hc12 | replace hc12 := Z.nb_true hc12 | replace hc12 := Z.nb_false hc12)
        first
        | (exfalso; first | (cases hc12; done) | omega)
        | skip
          refine Z.j_seq ?_
          refine Z.j_region ?_
          refine Z.s_val (Z.pv_build rfl Try.zeroValue41 pl41 rfl) ?_
          refine Z.s_storeA rfl rfl Try.sizeOf41 rfl (by repeat (first | with_reducible exact Z.Upd.here | apply Z.Upd.there)) (by rfl) ?_
          refine Z.j_nil ?_
          refine Z.j_then ?_
          refine Z.j_ret ?_
          refine Z.j_blk_ret ?_
          refine Z.j_then_ret ?_
          refine Z.j_done_ret (Z.rv1 (Z.rv_cellA (x := 8) (T := 41) rfl (by repeat (first | with_reducible exact Z.Take.here | apply Z.Take.there)) Try.isAgg41 Try.sizeOf41 (by rfl))) ?_
          first | (exfalso; exact io_0 hc12 hc21) | (rw [fold_z (by omega)]; exact Z.post_of ⟨rfl, rfl⟩ (by repeat (first | with_reducible exact Z.Takes.nil | (apply Z.Takes.cons; (repeat (first | with_reducible exact Z.Take.here | apply Z.Take.there))))) (by repeat (first | with_reducible exact Z.Drop.nil | apply Z.Drop.cons))) | (rw [fold_o hc12]; exact Z.post_of ⟨rfl, rfl⟩ (by repeat (first | with_reducible exact Z.Takes.nil | (apply Z.Takes.cons; (repeat (first | with_reducible exact Z.Take.here | apply Z.Take.there))))) (by repeat (first | with_reducible exact Z.Drop.nil | apply Z.Drop.cons))) | (rw [fold_i (by omega) hc12 hc21]; exact Z.post_of ⟨rfl, rfl⟩ (by repeat (first | with_reducible exact Z.Takes.nil | (apply Z.Takes.cons; (repeat (first | with_reducible exact Z.Take.here | apply Z.Take.there))))) (by repeat (first | with_reducible exact Z.Drop.nil | apply Z.Drop.cons))) | (rw [fold_s (by omega) hc12 hc21]; exact Z.post_of ⟨rfl, rfl⟩ (by repeat (first | with_reducible exact Z.Takes.nil | (apply Z.Takes.cons; (repeat (first | with_reducible exact Z.Take.here | apply Z.Take.there))))) (by repeat (first | with_reducible exact Z.Drop.nil | apply Z.Drop.cons)))
      · try (with_reducible first | replace hc12 := of_decide_eq_true hc12 | replace hc12 := of_decide_eq_false hc12 | replace hc12 := Z.nd_true hc12 | replace hc12 := Z.nd_false hc12 | replace hc12 := Z.nn_true hc12 | replace hc12 := Z.nn_false hc12 | replace hc12 := Z.nb_true hc12 | replace hc12 := Z.nb_false hc12)
        first
        | (exfalso; first | (cases hc12; done) | omega)
        | skip
          refine Z.j_seq ?_
          refine Z.j_region ?_
          refine Z.s_val (Z.pv_loadA rfl (by repeat (first | with_reducible exact Z.Take.here | apply Z.Take.there)) Try.isAgg61 Try.sizeOf61 (by rfl)) ?_
          refine Z.s_val (Z.pv_loadA rfl (by repeat (first | with_reducible exact Z.Take.here | apply Z.Take.there)) Try.isAgg44 Try.sizeOf44 (by rfl)) ?_
          refine Z.s_callD rfl rfl rfl isFn34 (by repeat (first | with_reducible exact Z.Takes.nil | (apply Z.Takes.cons; (repeat (first | with_reducible exact Z.Take.here | apply Z.Take.there))))) (by repeat (first | exact Z.App.nil | apply Z.App.cons)) (inside_spec _ _ (h + 1) (by omega) (by omega) (by omega) _ _) ?_
          refine Z.s_val (Z.pv_assign rfl) ?_
          refine Z.j_nil ?_
          refine Z.j_then ?_
          refine Z.j_cond rfl (fun hc21 => ?_) (fun hc21 => ?_)
          · try (with_reducible first | replace hc21 := of_decide_eq_true hc21 | replace hc21 := of_decide_eq_false hc21 | replace hc21 := Z.nd_true hc21 | replace hc21 := Z.nd_false hc21 | replace hc21 := Z.nn_true hc21 | replace hc21 := Z.nn_false hc21 | replace hc21 := Z.nb_true hc21 | replace hc21 := Z.nb_false hc21)
            first
            | (exfalso; first | (cases hc21; done) | omega)
            | skip
              refine Z.j_seq ?_
              refine Z.j_region ?_
              refine Z.s_val (Z.pv_move rfl) ?_
              refine Z.s_val (Z.pv_move rfl) ?_
              refine Z.s_callD rfl rfl rfl isFn25 (by repeat (first | with_reducible exact Z.Takes.nil | (apply Z.Takes.cons; (repeat (first | with_reducible exact Z.Take.here | apply Z.Take.there))))) (by repeat (first | exact Z.App.nil | apply Z.App.cons)) (at_spec _ _ _ _ _ _ (by omega)) ?_
              refine Z.s_val (Z.pv_fieldA rfl Try.underlying69 rfl Try.isAgg41 Try.sizeOf41 rfl) ?_
              refine Z.s_storeA rfl rfl Try.sizeOf41 rfl (by repeat (first | with_reducible exact Z.Upd.here | apply Z.Upd.there)) (by rfl) ?_
              refine Z.j_nil ?_
              refine Z.j_then ?_
              refine Z.j_ret ?_
              refine Z.j_blk_ret ?_
              refine Z.j_then_ret ?_
              refine Z.j_done_ret (Z.rv1 (Z.rv_cellA (x := 8) (T := 41) rfl (by repeat (first | with_reducible exact Z.Take.here | apply Z.Take.there)) Try.isAgg41 Try.sizeOf41 (by rfl))) ?_
              first | (exfalso; exact io_0 hc12 hc21) | (rw [fold_z (by omega)]; exact Z.post_of ⟨rfl, rfl⟩ (by repeat (first | with_reducible exact Z.Takes.nil | (apply Z.Takes.cons; (repeat (first | with_reducible exact Z.Take.here | apply Z.Take.there))))) (by repeat (first | with_reducible exact Z.Drop.nil | apply Z.Drop.cons))) | (rw [fold_o hc12]; exact Z.post_of ⟨rfl, rfl⟩ (by repeat (first | with_reducible exact Z.Takes.nil | (apply Z.Takes.cons; (repeat (first | with_reducible exact Z.Take.here | apply Z.Take.there))))) (by repeat (first | with_reducible exact Z.Drop.nil | apply Z.Drop.cons))) | (rw [fold_i (by omega) hc12 hc21]; exact Z.post_of ⟨rfl, rfl⟩ (by repeat (first | with_reducible exact Z.Takes.nil | (apply Z.Takes.cons; (repeat (first | with_reducible exact Z.Take.here | apply Z.Take.there))))) (by repeat (first | with_reducible exact Z.Drop.nil | apply Z.Drop.cons))) | (rw [fold_s (by omega) hc12 hc21]; exact Z.post_of ⟨rfl, rfl⟩ (by repeat (first | with_reducible exact Z.Takes.nil | (apply Z.Takes.cons; (repeat (first | with_reducible exact Z.Take.here | apply Z.Take.there))))) (by repeat (first | with_reducible exact Z.Drop.nil | apply Z.Drop.cons)))
          · try (with_reducible first | replace hc21 := of_decide_eq_true hc21 | replace hc21 := of_decide_eq_false hc21 | replace hc21 := Z.nd_true hc21 | replace hc21 := Z.nd_false hc21 | replace hc21 := Z.nn_true hc21 | replace hc21 := Z.nn_false hc21 | replace hc21 := Z.nb_true hc21 | replace hc21 := Z.nb_false hc21)
            first
            | (exfalso; first | (cases hc21; done) | omega)
            | skip
              refine Z.j_skip ?_
              refine Z.j_blk ?_
              refine Z.j_then ?_
              refine Z.j_seq ?_
              refine Z.j_region ?_
              refine Z.s_val (Z.pv_move rfl) ?_
              refine Z.s_val (Z.pv_move rfl) ?_
              refine Z.s_callD rfl rfl rfl isFn27 (by repeat (first | with_reducible exact Z.Takes.nil | (apply Z.Takes.cons; (repeat (first | with_reducible exact Z.Take.here | apply Z.Take.there))))) (by repeat (first | exact Z.App.nil | apply Z.App.cons)) (push_spec _ _ _ _ _ _ (by assumption) (by omega)) ?_
              refine Z.s_alloc Try.zeroValue69 (fun b9 => ?_)
              refine Z.s_storeA rfl rfl Try.sizeOf69 rfl (by repeat (first | with_reducible exact Z.Upd.here | apply Z.Upd.there)) (by rfl) ?_
              refine Z.j_nil ?_
              refine Z.j_then ?_
              refine Z.j_seq ?_
              refine Z.j_region ?_
              refine Z.s_val (Z.pv_loadA rfl (by repeat (first | with_reducible exact Z.Take.here | apply Z.Take.there)) Try.isAgg61 Try.sizeOf61 (by rfl)) ?_
              refine Z.s_callD rfl rfl rfl isFn35 (by repeat (first | with_reducible exact Z.Takes.nil | (apply Z.Takes.cons; (repeat (first | with_reducible exact Z.Take.here | apply Z.Take.there))))) (by repeat (first | exact Z.App.nil | apply Z.App.cons)) (halves_spec _ _ h (by omega) (by omega) (by omega)) ?_
              refine Z.s_val (Z.pv_move rfl) ?_
              refine Z.s_val (Z.pv_extract rfl rfl) ?_
              refine Z.s_val (Z.pv_extract rfl rfl) ?_
              refine Z.s_alloc Try.zeroValue61 (fun b10 => ?_)
              refine Z.s_alloc Try.zeroValue61 (fun b11 => ?_)
              refine Z.s_storeA rfl rfl Try.sizeOf61 rfl (by repeat (first | with_reducible exact Z.Upd.here | apply Z.Upd.there)) (by rfl) ?_
              refine Z.s_storeA rfl rfl Try.sizeOf61 rfl (by repeat (first | with_reducible exact Z.Upd.here | apply Z.Upd.there)) (by rfl) ?_
              refine Z.j_nil ?_
              refine Z.j_then ?_
              refine Z.j_seq ?_
              refine Z.j_drawC (vals := [_, _, _, _, _, _, _, _, _, _, _, _, _, _]) 14 [5, 11, 13] [.fl, .fl, .pin 0, .pin 0, .pin 0, .ch 0, .fl, .fl, .fl, .fl, .fl, .ch 1, .pin 2, .ch 2] [Z.cl b9 _ _, Z.cl b11 _ _, Z.cl b7 _ _] [_, _, _, _] (by kernel_rfl) (by kernel_rfl) (by kernel_rfl) rfl (by rfl) rfl (by repeat (first | with_reducible exact Z.Takes.nil | (apply Z.Takes.cons; (repeat (first | with_reducible exact Z.Take.here | apply Z.Take.there))))) (Z.hc_cons (Z.hk_fl (Z.pv_move (by rfl))) (Z.hc_cons (Z.hk_fl (Z.pv_fieldAddr (o' := 0) (by rfl) Try.underlying69 (by rfl) (by exact Try.sizeOf21) (by rfl))) (Z.hc_cons (Z.hk_pin (by rfl) (Z.pv_load1 (by rfl) (by repeat (first | with_reducible exact Z.Take.here | apply Z.Take.there)) Try.isAgg21 (by rfl))) (Z.hc_cons (Z.hk_pin (by rfl) (Z.pv_loadA (by rfl) (by repeat (first | with_reducible exact Z.Take.here | apply Z.Take.there)) Try.isAgg61 (by exact Try.sizeOf61) (by rfl))) (Z.hc_cons (Z.hk_pin (by rfl) (Z.pv_loadA (by rfl) (by repeat (first | with_reducible exact Z.Take.here | apply Z.Take.there)) Try.isAgg44 (by exact Try.sizeOf44) (by rfl))) (Z.hc_cons (Z.hk_call (by rfl) (by rfl) (by rfl) (by rfl) isFn21 (by repeat (first | with_reducible exact Z.Takes.nil | (apply Z.Takes.cons; (repeat (first | with_reducible exact Z.Take.here | apply Z.Take.there))))) (by repeat (first | exact Z.App.nil | apply Z.App.cons)) (ih _ _ _ _ (by assumption) (by omega) (by omega) (by omega)) (by rfl)) (Z.hc_cons (Z.hk_fl (Z.pv_move (by rfl))) (Z.hc_cons (Z.hk_fl (Z.pv_fieldAddr (o' := 1) (by rfl) Try.underlying69 (by rfl) (by exact Try.sizeOf21) (by rfl))) (Z.hc_cons (Z.hk_fl (Z.pv_load1 (by rfl) (by repeat (first | with_reducible exact Z.Take.here | apply Z.Take.there)) Try.isAgg21 (by rfl))) (Z.hc_cons (Z.hk_fl (Z.pv_loadA (by rfl) (by repeat (first | with_reducible exact Z.Take.here | apply Z.Take.there)) Try.isAgg61 (by exact Try.sizeOf61) (by rfl))) (Z.hc_cons (Z.hk_fl (Z.pv_loadA (by rfl) (by repeat (first | with_reducible exact Z.Take.here | apply Z.Take.there)) Try.isAgg44 (by exact Try.sizeOf44) (by rfl))) (Z.hc_cons (Z.hk_call (by rfl) (by rfl) (by rfl) (by rfl) isFn21 (by repeat (first | with_reducible exact Z.Takes.nil | (apply Z.Takes.cons; (repeat (first | with_reducible exact Z.Take.here | apply Z.Take.there))))) (by repeat (first | exact Z.App.nil | apply Z.App.cons)) (ih _ _ _ _ (by assumption) (by omega) (by omega) (by omega)) (by rfl)) (Z.hc_cons (Z.hk_pincall (by rfl) (by rfl) (by rfl) (by rfl) isFn36 (by repeat (first | with_reducible exact Z.Takes.nil | (apply Z.Takes.cons; (repeat (first | with_reducible exact Z.Take.here | apply Z.Take.there))))) (by repeat (first | with_reducible exact Z.Takes.nil | (apply Z.Takes.cons; (repeat (first | with_reducible exact Z.Take.here | apply Z.Take.there))))) (mergex_spec _ _ _ _ _ _ _ _ _)) (Z.hc_cons (Z.hk_storeA (by rfl) (by rfl) (by rfl) (by exact Try.sizeOf41) (by rfl) (by repeat (first | with_reducible exact Z.Upd.here | apply Z.Upd.there)) (by rfl) (by rfl)) Z.hc_nil)))))))))))))) (Z.Holds.cons (by repeat (first | with_reducible exact Z.Takes.nil | (apply Z.Takes.cons; (repeat (first | with_reducible exact Z.Take.here | apply Z.Take.there))))) (Z.Holds.cons (by repeat (first | with_reducible exact Z.Takes.nil | (apply Z.Takes.cons; (repeat (first | with_reducible exact Z.Take.here | apply Z.Take.there))))) (Z.Holds.cons (by repeat (first | with_reducible exact Z.Takes.nil | (apply Z.Takes.cons; (repeat (first | with_reducible exact Z.Take.here | apply Z.Take.there))))) (Z.Holds.cons (by repeat (first | with_reducible exact Z.Takes.nil | (apply Z.Takes.cons; (repeat (first | with_reducible exact Z.Take.here | apply Z.Take.there))))) Z.Holds.nil)))) rfl rfl ?_
              refine Z.j_nil ?_
              refine Z.j_then ?_
              refine Z.j_ret ?_
              refine Z.j_done_ret (Z.rv1 (Z.rv_cellA (x := 8) (T := 41) rfl (by repeat (first | with_reducible exact Z.Take.here | apply Z.Take.there)) Try.isAgg41 Try.sizeOf41 (by rfl))) ?_
              first | (exfalso; exact io_0 hc12 hc21) | (rw [fold_z (by omega)]; exact Z.post_of ⟨rfl, rfl⟩ (by repeat (first | with_reducible exact Z.Takes.nil | (apply Z.Takes.cons; (repeat (first | with_reducible exact Z.Take.here | apply Z.Take.there))))) (by repeat (first | with_reducible exact Z.Drop.nil | apply Z.Drop.cons))) | (rw [fold_o hc12]; exact Z.post_of ⟨rfl, rfl⟩ (by repeat (first | with_reducible exact Z.Takes.nil | (apply Z.Takes.cons; (repeat (first | with_reducible exact Z.Take.here | apply Z.Take.there))))) (by repeat (first | with_reducible exact Z.Drop.nil | apply Z.Drop.cons))) | (rw [fold_i (by omega) hc12 hc21]; exact Z.post_of ⟨rfl, rfl⟩ (by repeat (first | with_reducible exact Z.Takes.nil | (apply Z.Takes.cons; (repeat (first | with_reducible exact Z.Take.here | apply Z.Take.there))))) (by repeat (first | with_reducible exact Z.Drop.nil | apply Z.Drop.cons))) | (rw [fold_s (by omega) hc12 hc21]; exact Z.post_of ⟨rfl, rfl⟩ (by repeat (first | with_reducible exact Z.Takes.nil | (apply Z.Takes.cons; (repeat (first | with_reducible exact Z.Take.here | apply Z.Take.there))))) (by repeat (first | with_reducible exact Z.Drop.nil | apply Z.Drop.cons)))
  · try (with_reducible first | replace hg15 := of_decide_eq_true hg15 | replace hg15 := of_decide_eq_false hg15 | replace hg15 := Z.nd_true hg15 | replace hg15 := Z.nd_false hg15 | replace hg15 := Z.nn_true hg15 | replace hg15 := Z.nn_false hg15 | replace hg15 := Z.nb_true hg15 | replace hg15 := Z.nb_false hg15)
    first
    | (exfalso; first | (cases hg15; done) | omega)
    | skip
      refine Z.s_val (Z.pv_loadA rfl (by repeat (first | with_reducible exact Z.Take.here | apply Z.Take.there)) Try.isAgg61 Try.sizeOf61 (by rfl)) ?_
      refine Z.s_val (Z.pv_loadA rfl (by repeat (first | with_reducible exact Z.Take.here | apply Z.Take.there)) Try.isAgg44 Try.sizeOf44 (by rfl)) ?_
      refine Z.s_callD rfl rfl rfl isFn33 (by repeat (first | with_reducible exact Z.Takes.nil | (apply Z.Takes.cons; (repeat (first | with_reducible exact Z.Take.here | apply Z.Take.there))))) (by repeat (first | exact Z.App.nil | apply Z.App.cons)) (outside_spec _ _ (h + 1) (by omega) (by omega) (by omega) _ _) ?_
      refine Z.s_val (Z.pv_pick rfl rfl) ?_
      refine Z.s_val (Z.pv_assign rfl) ?_
      refine Z.j_nil ?_
      refine Z.j_then ?_
      refine Z.j_cond rfl (fun hc12 => ?_) (fun hc12 => ?_)
      · try (with_reducible first | replace hc12 := of_decide_eq_true hc12 | replace hc12 := of_decide_eq_false hc12 | replace hc12 := Z.nd_true hc12 | replace hc12 := Z.nd_false hc12 | replace hc12 := Z.nn_true hc12 | replace hc12 := Z.nn_false hc12 | replace hc12 := Z.nb_true hc12 | replace hc12 := Z.nb_false hc12)
        first
        | (exfalso; first | (cases hc12; done) | omega)
        | skip
          refine Z.j_seq ?_
          refine Z.j_region ?_
          refine Z.s_val (Z.pv_build rfl Try.zeroValue41 pl41 rfl) ?_
          refine Z.s_storeA rfl rfl Try.sizeOf41 rfl (by repeat (first | with_reducible exact Z.Upd.here | apply Z.Upd.there)) (by rfl) ?_
          refine Z.j_nil ?_
          refine Z.j_then ?_
          refine Z.j_ret ?_
          refine Z.j_blk_ret ?_
          refine Z.j_then_ret ?_
          refine Z.j_done_ret (Z.rv1 (Z.rv_cellA (x := 8) (T := 41) rfl (by repeat (first | with_reducible exact Z.Take.here | apply Z.Take.there)) Try.isAgg41 Try.sizeOf41 (by rfl))) ?_
          first | (exfalso; exact io_0 hc12 hc21) | (rw [fold_z (by omega)]; exact Z.post_of ⟨rfl, rfl⟩ (by repeat (first | with_reducible exact Z.Takes.nil | (apply Z.Takes.cons; (repeat (first | with_reducible exact Z.Take.here | apply Z.Take.there))))) (by repeat (first | with_reducible exact Z.Drop.nil | apply Z.Drop.cons))) | (rw [fold_o hc12]; exact Z.post_of ⟨rfl, rfl⟩ (by repeat (first | with_reducible exact Z.Takes.nil | (apply Z.Takes.cons; (repeat (first | with_reducible exact Z.Take.here | apply Z.Take.there))))) (by repeat (first | with_reducible exact Z.Drop.nil | apply Z.Drop.cons))) | (rw [fold_i (by omega) hc12 hc21]; exact Z.post_of ⟨rfl, rfl⟩ (by repeat (first | with_reducible exact Z.Takes.nil | (apply Z.Takes.cons; (repeat (first | with_reducible exact Z.Take.here | apply Z.Take.there))))) (by repeat (first | with_reducible exact Z.Drop.nil | apply Z.Drop.cons))) | (rw [fold_s (by omega) hc12 hc21]; exact Z.post_of ⟨rfl, rfl⟩ (by repeat (first | with_reducible exact Z.Takes.nil | (apply Z.Takes.cons; (repeat (first | with_reducible exact Z.Take.here | apply Z.Take.there))))) (by repeat (first | with_reducible exact Z.Drop.nil | apply Z.Drop.cons)))
      · try (with_reducible first | replace hc12 := of_decide_eq_true hc12 | replace hc12 := of_decide_eq_false hc12 | replace hc12 := Z.nd_true hc12 | replace hc12 := Z.nd_false hc12 | replace hc12 := Z.nn_true hc12 | replace hc12 := Z.nn_false hc12 | replace hc12 := Z.nb_true hc12 | replace hc12 := Z.nb_false hc12)
        first
        | (exfalso; first | (cases hc12; done) | omega)
        | skip
          refine Z.j_seq ?_
          refine Z.j_region ?_
          refine Z.s_val (Z.pv_loadA rfl (by repeat (first | with_reducible exact Z.Take.here | apply Z.Take.there)) Try.isAgg61 Try.sizeOf61 (by rfl)) ?_
          refine Z.s_val (Z.pv_loadA rfl (by repeat (first | with_reducible exact Z.Take.here | apply Z.Take.there)) Try.isAgg44 Try.sizeOf44 (by rfl)) ?_
          refine Z.s_callD rfl rfl rfl isFn34 (by repeat (first | with_reducible exact Z.Takes.nil | (apply Z.Takes.cons; (repeat (first | with_reducible exact Z.Take.here | apply Z.Take.there))))) (by repeat (first | exact Z.App.nil | apply Z.App.cons)) (inside_spec _ _ (h + 1) (by omega) (by omega) (by omega) _ _) ?_
          refine Z.s_val (Z.pv_assign rfl) ?_
          refine Z.j_nil ?_
          refine Z.j_then ?_
          refine Z.j_cond rfl (fun hc21 => ?_) (fun hc21 => ?_)
          · try (with_reducible first | replace hc21 := of_decide_eq_true hc21 | replace hc21 := of_decide_eq_false hc21 | replace hc21 := Z.nd_true hc21 | replace hc21 := Z.nd_false hc21 | replace hc21 := Z.nn_true hc21 | replace hc21 := Z.nn_false hc21 | replace hc21 := Z.nb_true hc21 | replace hc21 := Z.nb_false hc21)
            first
            | (exfalso; first | (cases hc21; done) | omega)
            | skip
              refine Z.j_seq ?_
              refine Z.j_region ?_
              refine Z.s_val (Z.pv_move rfl) ?_
              refine Z.s_val (Z.pv_move rfl) ?_
              refine Z.s_callD rfl rfl rfl isFn25 (by repeat (first | with_reducible exact Z.Takes.nil | (apply Z.Takes.cons; (repeat (first | with_reducible exact Z.Take.here | apply Z.Take.there))))) (by repeat (first | exact Z.App.nil | apply Z.App.cons)) (at_spec _ _ _ _ _ _ (by omega)) ?_
              refine Z.s_val (Z.pv_fieldA rfl Try.underlying69 rfl Try.isAgg41 Try.sizeOf41 rfl) ?_
              refine Z.s_storeA rfl rfl Try.sizeOf41 rfl (by repeat (first | with_reducible exact Z.Upd.here | apply Z.Upd.there)) (by rfl) ?_
              refine Z.j_nil ?_
              refine Z.j_then ?_
              refine Z.j_ret ?_
              refine Z.j_blk_ret ?_
              refine Z.j_then_ret ?_
              refine Z.j_done_ret (Z.rv1 (Z.rv_cellA (x := 8) (T := 41) rfl (by repeat (first | with_reducible exact Z.Take.here | apply Z.Take.there)) Try.isAgg41 Try.sizeOf41 (by rfl))) ?_
              first | (exfalso; exact io_0 hc12 hc21) | (rw [fold_z (by omega)]; exact Z.post_of ⟨rfl, rfl⟩ (by repeat (first | with_reducible exact Z.Takes.nil | (apply Z.Takes.cons; (repeat (first | with_reducible exact Z.Take.here | apply Z.Take.there))))) (by repeat (first | with_reducible exact Z.Drop.nil | apply Z.Drop.cons))) | (rw [fold_o hc12]; exact Z.post_of ⟨rfl, rfl⟩ (by repeat (first | with_reducible exact Z.Takes.nil | (apply Z.Takes.cons; (repeat (first | with_reducible exact Z.Take.here | apply Z.Take.there))))) (by repeat (first | with_reducible exact Z.Drop.nil | apply Z.Drop.cons))) | (rw [fold_i (by omega) hc12 hc21]; exact Z.post_of ⟨rfl, rfl⟩ (by repeat (first | with_reducible exact Z.Takes.nil | (apply Z.Takes.cons; (repeat (first | with_reducible exact Z.Take.here | apply Z.Take.there))))) (by repeat (first | with_reducible exact Z.Drop.nil | apply Z.Drop.cons))) | (rw [fold_s (by omega) hc12 hc21]; exact Z.post_of ⟨rfl, rfl⟩ (by repeat (first | with_reducible exact Z.Takes.nil | (apply Z.Takes.cons; (repeat (first | with_reducible exact Z.Take.here | apply Z.Take.there))))) (by repeat (first | with_reducible exact Z.Drop.nil | apply Z.Drop.cons)))
          · try (with_reducible first | replace hc21 := of_decide_eq_true hc21 | replace hc21 := of_decide_eq_false hc21 | replace hc21 := Z.nd_true hc21 | replace hc21 := Z.nd_false hc21 | replace hc21 := Z.nn_true hc21 | replace hc21 := Z.nn_false hc21 | replace hc21 := Z.nb_true hc21 | replace hc21 := Z.nb_false hc21)
            first
            | (exfalso; first | (cases hc21; done) | omega)
            | skip
              refine Z.j_skip ?_
              refine Z.j_blk ?_
              refine Z.j_then ?_
              refine Z.j_seq ?_
              refine Z.j_region ?_
              refine Z.s_val (Z.pv_move rfl) ?_
              refine Z.s_val (Z.pv_move rfl) ?_
              refine Z.s_callD rfl rfl rfl isFn27 (by repeat (first | with_reducible exact Z.Takes.nil | (apply Z.Takes.cons; (repeat (first | with_reducible exact Z.Take.here | apply Z.Take.there))))) (by repeat (first | exact Z.App.nil | apply Z.App.cons)) (push_spec _ _ _ _ _ _ (by assumption) (by omega)) ?_
              refine Z.s_alloc Try.zeroValue69 (fun b9 => ?_)
              refine Z.s_storeA rfl rfl Try.sizeOf69 rfl (by repeat (first | with_reducible exact Z.Upd.here | apply Z.Upd.there)) (by rfl) ?_
              refine Z.j_nil ?_
              refine Z.j_then ?_
              refine Z.j_seq ?_
              refine Z.j_region ?_
              refine Z.s_val (Z.pv_loadA rfl (by repeat (first | with_reducible exact Z.Take.here | apply Z.Take.there)) Try.isAgg61 Try.sizeOf61 (by rfl)) ?_
              refine Z.s_callD rfl rfl rfl isFn35 (by repeat (first | with_reducible exact Z.Takes.nil | (apply Z.Takes.cons; (repeat (first | with_reducible exact Z.Take.here | apply Z.Take.there))))) (by repeat (first | exact Z.App.nil | apply Z.App.cons)) (halves_spec _ _ h (by omega) (by omega) (by omega)) ?_
              refine Z.s_val (Z.pv_move rfl) ?_
              refine Z.s_val (Z.pv_extract rfl rfl) ?_
              refine Z.s_val (Z.pv_extract rfl rfl) ?_
              refine Z.s_alloc Try.zeroValue61 (fun b10 => ?_)
              refine Z.s_alloc Try.zeroValue61 (fun b11 => ?_)
              refine Z.s_storeA rfl rfl Try.sizeOf61 rfl (by repeat (first | with_reducible exact Z.Upd.here | apply Z.Upd.there)) (by rfl) ?_
              refine Z.s_storeA rfl rfl Try.sizeOf61 rfl (by repeat (first | with_reducible exact Z.Upd.here | apply Z.Upd.there)) (by rfl) ?_
              refine Z.j_nil ?_
              refine Z.j_then ?_
              refine Z.j_seq ?_
              refine Z.j_drawC (vals := [_, _, _, _, _, _, _, _, _, _, _, _, _, _]) 14 [5, 11, 13] [.fl, .fl, .pin 0, .pin 0, .pin 0, .ch 0, .fl, .fl, .fl, .fl, .fl, .ch 1, .pin 2, .ch 2] [Z.cl b9 _ _, Z.cl b11 _ _, Z.cl b7 _ _] [_, _, _, _] (by kernel_rfl) (by kernel_rfl) (by kernel_rfl) rfl (by rfl) rfl (by repeat (first | with_reducible exact Z.Takes.nil | (apply Z.Takes.cons; (repeat (first | with_reducible exact Z.Take.here | apply Z.Take.there))))) (Z.hc_cons (Z.hk_fl (Z.pv_move (by rfl))) (Z.hc_cons (Z.hk_fl (Z.pv_fieldAddr (o' := 0) (by rfl) Try.underlying69 (by rfl) (by exact Try.sizeOf21) (by rfl))) (Z.hc_cons (Z.hk_pin (by rfl) (Z.pv_load1 (by rfl) (by repeat (first | with_reducible exact Z.Take.here | apply Z.Take.there)) Try.isAgg21 (by rfl))) (Z.hc_cons (Z.hk_pin (by rfl) (Z.pv_loadA (by rfl) (by repeat (first | with_reducible exact Z.Take.here | apply Z.Take.there)) Try.isAgg61 (by exact Try.sizeOf61) (by rfl))) (Z.hc_cons (Z.hk_pin (by rfl) (Z.pv_loadA (by rfl) (by repeat (first | with_reducible exact Z.Take.here | apply Z.Take.there)) Try.isAgg44 (by exact Try.sizeOf44) (by rfl))) (Z.hc_cons (Z.hk_call (by rfl) (by rfl) (by rfl) (by rfl) isFn21 (by repeat (first | with_reducible exact Z.Takes.nil | (apply Z.Takes.cons; (repeat (first | with_reducible exact Z.Take.here | apply Z.Take.there))))) (by repeat (first | exact Z.App.nil | apply Z.App.cons)) (ih _ _ _ _ (by assumption) (by omega) (by omega) (by omega)) (by rfl)) (Z.hc_cons (Z.hk_fl (Z.pv_move (by rfl))) (Z.hc_cons (Z.hk_fl (Z.pv_fieldAddr (o' := 1) (by rfl) Try.underlying69 (by rfl) (by exact Try.sizeOf21) (by rfl))) (Z.hc_cons (Z.hk_fl (Z.pv_load1 (by rfl) (by repeat (first | with_reducible exact Z.Take.here | apply Z.Take.there)) Try.isAgg21 (by rfl))) (Z.hc_cons (Z.hk_fl (Z.pv_loadA (by rfl) (by repeat (first | with_reducible exact Z.Take.here | apply Z.Take.there)) Try.isAgg61 (by exact Try.sizeOf61) (by rfl))) (Z.hc_cons (Z.hk_fl (Z.pv_loadA (by rfl) (by repeat (first | with_reducible exact Z.Take.here | apply Z.Take.there)) Try.isAgg44 (by exact Try.sizeOf44) (by rfl))) (Z.hc_cons (Z.hk_call (by rfl) (by rfl) (by rfl) (by rfl) isFn21 (by repeat (first | with_reducible exact Z.Takes.nil | (apply Z.Takes.cons; (repeat (first | with_reducible exact Z.Take.here | apply Z.Take.there))))) (by repeat (first | exact Z.App.nil | apply Z.App.cons)) (ih _ _ _ _ (by assumption) (by omega) (by omega) (by omega)) (by rfl)) (Z.hc_cons (Z.hk_pincall (by rfl) (by rfl) (by rfl) (by rfl) isFn36 (by repeat (first | with_reducible exact Z.Takes.nil | (apply Z.Takes.cons; (repeat (first | with_reducible exact Z.Take.here | apply Z.Take.there))))) (by repeat (first | with_reducible exact Z.Takes.nil | (apply Z.Takes.cons; (repeat (first | with_reducible exact Z.Take.here | apply Z.Take.there))))) (mergex_spec _ _ _ _ _ _ _ _ _)) (Z.hc_cons (Z.hk_storeA (by rfl) (by rfl) (by rfl) (by exact Try.sizeOf41) (by rfl) (by repeat (first | with_reducible exact Z.Upd.here | apply Z.Upd.there)) (by rfl) (by rfl)) Z.hc_nil)))))))))))))) (Z.Holds.cons (by repeat (first | with_reducible exact Z.Takes.nil | (apply Z.Takes.cons; (repeat (first | with_reducible exact Z.Take.here | apply Z.Take.there))))) (Z.Holds.cons (by repeat (first | with_reducible exact Z.Takes.nil | (apply Z.Takes.cons; (repeat (first | with_reducible exact Z.Take.here | apply Z.Take.there))))) (Z.Holds.cons (by repeat (first | with_reducible exact Z.Takes.nil | (apply Z.Takes.cons; (repeat (first | with_reducible exact Z.Take.here | apply Z.Take.there))))) (Z.Holds.cons (by repeat (first | with_reducible exact Z.Takes.nil | (apply Z.Takes.cons; (repeat (first | with_reducible exact Z.Take.here | apply Z.Take.there))))) Z.Holds.nil)))) rfl rfl ?_
              refine Z.j_nil ?_
              refine Z.j_then ?_
              refine Z.j_ret ?_
              refine Z.j_done_ret (Z.rv1 (Z.rv_cellA (x := 8) (T := 41) rfl (by repeat (first | with_reducible exact Z.Take.here | apply Z.Take.there)) Try.isAgg41 Try.sizeOf41 (by rfl))) ?_
              first | (exfalso; exact io_0 hc12 hc21) | (rw [fold_z (by omega)]; exact Z.post_of ⟨rfl, rfl⟩ (by repeat (first | with_reducible exact Z.Takes.nil | (apply Z.Takes.cons; (repeat (first | with_reducible exact Z.Take.here | apply Z.Take.there))))) (by repeat (first | with_reducible exact Z.Drop.nil | apply Z.Drop.cons))) | (rw [fold_o hc12]; exact Z.post_of ⟨rfl, rfl⟩ (by repeat (first | with_reducible exact Z.Takes.nil | (apply Z.Takes.cons; (repeat (first | with_reducible exact Z.Take.here | apply Z.Take.there))))) (by repeat (first | with_reducible exact Z.Drop.nil | apply Z.Drop.cons))) | (rw [fold_i (by omega) hc12 hc21]; exact Z.post_of ⟨rfl, rfl⟩ (by repeat (first | with_reducible exact Z.Takes.nil | (apply Z.Takes.cons; (repeat (first | with_reducible exact Z.Take.here | apply Z.Take.there))))) (by repeat (first | with_reducible exact Z.Drop.nil | apply Z.Drop.cons))) | (rw [fold_s (by omega) hc12 hc21]; exact Z.post_of ⟨rfl, rfl⟩ (by repeat (first | with_reducible exact Z.Takes.nil | (apply Z.Takes.cons; (repeat (first | with_reducible exact Z.Take.here | apply Z.Take.there))))) (by repeat (first | with_reducible exact Z.Drop.nil | apply Z.Drop.cons)))


theorem fold_all (tb ab : Nat) (r s t : Int) (h : Nat) : h ≤ 32 → ∀ w0 A i lo, A.ok → (0 ≤ i ∧ i ≤ 4194304) → 0 ≤ lo → lo + pw h ≤ 4294967296 → Z.FnD Try.prog w0 21 [.pointer (some ⟨tb, 0, none⟩), .int .i32 i, .agg #[.int .u32 lo, .int .i64 h], .agg #[.int .u32 s, .int .u32 t]] [Z.cl tb 52 [.pointer (some ⟨ab, 0, none⟩), .int .i32 r], Arena ab A] (.agg (Ar.fold s t h A i lo).1.l.toArray) [Z.cl tb 52 [.pointer (some ⟨ab, 0, none⟩), .int .i32 r], Arena ab (Ar.fold s t h A i lo).2] := by
  induction h with
  | zero => intro _ w0 A i lo hA hi h0 h1; exact fold0_spec w0 tb ab r A s t i lo hA hi h0 h1
  | succ h ih => intro hh w0 A i lo hA hi h0 h1; exact fold1_spec w0 tb ab r A s t i lo hA hi h0 h hh h1 (ih (by omega))

set_option maxHeartbeats 4000000 in
set_option maxRecDepth 100000 in
theorem cut0_spec (w0 : World) (tb ab : Nat) (r : Int) (A : Ar) (s t i lo : Int) (hA : A.ok) (hi : 0 ≤ i ∧ i ≤ 4194304) (h0 : 0 ≤ lo) (h1 : lo + pw 0 ≤ 4294967296) : Z.FnD Try.prog w0 23 [.pointer (some ⟨tb, 0, none⟩), .int .i32 i, .agg #[.int .u32 lo, .int .i64 0], .agg #[.int .u32 s, .int .u32 t]] [Z.cl tb 52 [.pointer (some ⟨ab, 0, none⟩), .int .i32 r], Arena ab A] (.tuple #[]) [Z.cl tb 52 [.pointer (some ⟨ab, 0, none⟩), .int .i32 r], Arena ab (Ar.cut s t 0 A i lo)] := by
  obtain ⟨⟨hl1, hl2⟩, hl3, hl4⟩ := get_ok hA i
  refine Z.Fn.fnD ?_
  refine Z.fn_enter (n := 50) Try.func23 rfl (by rfl) (by rfl) (fun Fr => ?_)
  refine Z.j_app (by repeat (first | exact Z.App.nil | apply Z.App.cons)) ?_
  refine Z.j_seq ?_
  refine Z.j_region ?_
  refine Z.s_box rfl (fun b6 => ?_)
  refine Z.s_box rfl (fun b7 => ?_)
  refine Z.j_nil ?_
  refine Z.j_then ?_
  refine Z.j_seq ?_
  refine Z.j_block ?_
  refine Z.j_seq ?_
  refine Z.j_region ?_
  refine Z.s_val (Z.pv_move rfl) ?_
  refine Z.s_val (Z.pv_eql rfl rfl) ?_
  refine Z.s_val (Z.pv_move rfl) ?_
  refine Z.s_split 14 rfl (fun hg14 => ?_) (fun hg14 => ?_)
  · try (with_reducible first | replace hg14 := of_decide_eq_true hg14 | replace hg14 := of_decide_eq_false hg14 | replace hg14 := Z.nd_true hg14 | replace hg14 := Z.nd_false hg14 | replace hg14 := Z.nn_true hg14 | replace hg14 := Z.nn_false hg14 | replace hg14 := Z.nb_true hg14 | replace hg14 := Z.nb_false hg14)
    first
    | (exfalso; first | (cases hg14; done) | omega)
    | skip
      refine Z.s_skip ?_
      refine Z.s_skip ?_
      refine Z.s_skip ?_
      refine Z.s_val (Z.pv_pick rfl rfl) ?_
      refine Z.s_val (Z.pv_assign rfl) ?_
      refine Z.j_nil ?_
      refine Z.j_then ?_
      refine Z.j_cond rfl (fun hc11 => ?_) (fun hc11 => ?_)
      · try (with_reducible first | replace hc11 := of_decide_eq_true hc11 | replace hc11 := of_decide_eq_false hc11 | replace hc11 := Z.nd_true hc11 | replace hc11 := Z.nd_false hc11 | replace hc11 := Z.nn_true hc11 | replace hc11 := Z.nn_false hc11 | replace hc11 := Z.nb_true hc11 | replace hc11 := Z.nb_false hc11)
        first
        | (exfalso; first | (cases hc11; done) | omega)
        | skip
          refine Z.j_ret ?_
          refine Z.j_blk_ret ?_
          refine Z.j_then_ret ?_
          refine Z.j_done_ret Z.rv0 ?_
          first | (exfalso; exact io_0 hc11 hc19) | (rw [cut_z (by omega)]; exact Z.post_of ⟨rfl, rfl⟩ (by repeat (first | with_reducible exact Z.Takes.nil | (apply Z.Takes.cons; (repeat (first | with_reducible exact Z.Take.here | apply Z.Take.there))))) (by repeat (first | with_reducible exact Z.Drop.nil | apply Z.Drop.cons))) | (rw [cut_o hc11]; exact Z.post_of ⟨rfl, rfl⟩ (by repeat (first | with_reducible exact Z.Takes.nil | (apply Z.Takes.cons; (repeat (first | with_reducible exact Z.Take.here | apply Z.Take.there))))) (by repeat (first | with_reducible exact Z.Drop.nil | apply Z.Drop.cons))) | (rw [cut_i (by omega) hc11 hc19]; exact Z.post_of ⟨rfl, rfl⟩ (by repeat (first | with_reducible exact Z.Takes.nil | (apply Z.Takes.cons; (repeat (first | with_reducible exact Z.Take.here | apply Z.Take.there))))) (by repeat (first | with_reducible exact Z.Drop.nil | apply Z.Drop.cons)))
      · try (with_reducible first | replace hc11 := of_decide_eq_true hc11 | replace hc11 := of_decide_eq_false hc11 | replace hc11 := Z.nd_true hc11 | replace hc11 := Z.nd_false hc11 | replace hc11 := Z.nn_true hc11 | replace hc11 := Z.nn_false hc11 | replace hc11 := Z.nb_true hc11 | replace hc11 := Z.nb_false hc11)
        first
        | (exfalso; first | (cases hc11; done) | omega)
        | skip
          refine Z.j_seq ?_
          refine Z.j_region ?_
          refine Z.s_val (Z.pv_loadA rfl (by repeat (first | with_reducible exact Z.Take.here | apply Z.Take.there)) Try.isAgg61 Try.sizeOf61 (by rfl)) ?_
          refine Z.s_val (Z.pv_loadA rfl (by repeat (first | with_reducible exact Z.Take.here | apply Z.Take.there)) Try.isAgg44 Try.sizeOf44 (by rfl)) ?_
          refine Z.s_callD rfl rfl rfl isFn34 (by repeat (first | with_reducible exact Z.Takes.nil | (apply Z.Takes.cons; (repeat (first | with_reducible exact Z.Take.here | apply Z.Take.there))))) (by repeat (first | exact Z.App.nil | apply Z.App.cons)) (inside_spec _ _ 0 (by omega) (by omega) (by omega) _ _) ?_
          refine Z.s_val (Z.pv_assign rfl) ?_
          refine Z.j_nil ?_
          refine Z.j_then ?_
          refine Z.j_cond rfl (fun hc19 => ?_) (fun hc19 => ?_)
          · try (with_reducible first | replace hc19 := of_decide_eq_true hc19 | replace hc19 := of_decide_eq_false hc19 | replace hc19 := Z.nd_true hc19 | replace hc19 := Z.nd_false hc19 | replace hc19 := Z.nn_true hc19 | replace hc19 := Z.nn_false hc19 | replace hc19 := Z.nb_true hc19 | replace hc19 := Z.nb_false hc19)
            first
            | (exfalso; first | (cases hc19; done) | omega)
            | skip
              refine Z.j_seq ?_
              refine Z.j_region ?_
              refine Z.s_val (Z.pv_move rfl) ?_
              refine Z.s_val (Z.pv_move rfl) ?_
              refine Z.s_callD rfl rfl rfl isFn37 (by repeat (first | with_reducible exact Z.Takes.nil | (apply Z.Takes.cons; (repeat (first | with_reducible exact Z.Take.here | apply Z.Take.there))))) (by repeat (first | exact Z.App.nil | apply Z.App.cons)) (kill_spec _ _ _ _ _ _ (by omega)) ?_
              refine Z.j_nil ?_
              refine Z.j_then ?_
              refine Z.j_ret ?_
              refine Z.j_blk_ret ?_
              refine Z.j_then_ret ?_
              refine Z.j_done_ret Z.rv0 ?_
              first | (exfalso; exact io_0 hc11 hc19) | (rw [cut_z (by omega)]; exact Z.post_of ⟨rfl, rfl⟩ (by repeat (first | with_reducible exact Z.Takes.nil | (apply Z.Takes.cons; (repeat (first | with_reducible exact Z.Take.here | apply Z.Take.there))))) (by repeat (first | with_reducible exact Z.Drop.nil | apply Z.Drop.cons))) | (rw [cut_o hc11]; exact Z.post_of ⟨rfl, rfl⟩ (by repeat (first | with_reducible exact Z.Takes.nil | (apply Z.Takes.cons; (repeat (first | with_reducible exact Z.Take.here | apply Z.Take.there))))) (by repeat (first | with_reducible exact Z.Drop.nil | apply Z.Drop.cons))) | (rw [cut_i (by omega) hc11 hc19]; exact Z.post_of ⟨rfl, rfl⟩ (by repeat (first | with_reducible exact Z.Takes.nil | (apply Z.Takes.cons; (repeat (first | with_reducible exact Z.Take.here | apply Z.Take.there))))) (by repeat (first | with_reducible exact Z.Drop.nil | apply Z.Drop.cons)))
          · try (with_reducible first | replace hc19 := of_decide_eq_true hc19 | replace hc19 := of_decide_eq_false hc19 | replace hc19 := Z.nd_true hc19 | replace hc19 := Z.nd_false hc19 | replace hc19 := Z.nn_true hc19 | replace hc19 := Z.nn_false hc19 | replace hc19 := Z.nb_true hc19 | replace hc19 := Z.nb_false hc19)
            exact (io_0 hc11 hc19).elim
  · try (with_reducible first | replace hg14 := of_decide_eq_true hg14 | replace hg14 := of_decide_eq_false hg14 | replace hg14 := Z.nd_true hg14 | replace hg14 := Z.nd_false hg14 | replace hg14 := Z.nn_true hg14 | replace hg14 := Z.nn_false hg14 | replace hg14 := Z.nb_true hg14 | replace hg14 := Z.nb_false hg14)
    first
    | (exfalso; first | (cases hg14; done) | omega)
    | skip
      refine Z.s_val (Z.pv_loadA rfl (by repeat (first | with_reducible exact Z.Take.here | apply Z.Take.there)) Try.isAgg61 Try.sizeOf61 (by rfl)) ?_
      refine Z.s_val (Z.pv_loadA rfl (by repeat (first | with_reducible exact Z.Take.here | apply Z.Take.there)) Try.isAgg44 Try.sizeOf44 (by rfl)) ?_
      refine Z.s_callD rfl rfl rfl isFn33 (by repeat (first | with_reducible exact Z.Takes.nil | (apply Z.Takes.cons; (repeat (first | with_reducible exact Z.Take.here | apply Z.Take.there))))) (by repeat (first | exact Z.App.nil | apply Z.App.cons)) (outside_spec _ _ 0 (by omega) (by omega) (by omega) _ _) ?_
      refine Z.s_val (Z.pv_pick rfl rfl) ?_
      refine Z.s_val (Z.pv_assign rfl) ?_
      refine Z.j_nil ?_
      refine Z.j_then ?_
      refine Z.j_cond rfl (fun hc11 => ?_) (fun hc11 => ?_)
      · try (with_reducible first | replace hc11 := of_decide_eq_true hc11 | replace hc11 := of_decide_eq_false hc11 | replace hc11 := Z.nd_true hc11 | replace hc11 := Z.nd_false hc11 | replace hc11 := Z.nn_true hc11 | replace hc11 := Z.nn_false hc11 | replace hc11 := Z.nb_true hc11 | replace hc11 := Z.nb_false hc11)
        first
        | (exfalso; first | (cases hc11; done) | omega)
        | skip
          refine Z.j_ret ?_
          refine Z.j_blk_ret ?_
          refine Z.j_then_ret ?_
          refine Z.j_done_ret Z.rv0 ?_
          first | (exfalso; exact io_0 hc11 hc19) | (rw [cut_z (by omega)]; exact Z.post_of ⟨rfl, rfl⟩ (by repeat (first | with_reducible exact Z.Takes.nil | (apply Z.Takes.cons; (repeat (first | with_reducible exact Z.Take.here | apply Z.Take.there))))) (by repeat (first | with_reducible exact Z.Drop.nil | apply Z.Drop.cons))) | (rw [cut_o hc11]; exact Z.post_of ⟨rfl, rfl⟩ (by repeat (first | with_reducible exact Z.Takes.nil | (apply Z.Takes.cons; (repeat (first | with_reducible exact Z.Take.here | apply Z.Take.there))))) (by repeat (first | with_reducible exact Z.Drop.nil | apply Z.Drop.cons))) | (rw [cut_i (by omega) hc11 hc19]; exact Z.post_of ⟨rfl, rfl⟩ (by repeat (first | with_reducible exact Z.Takes.nil | (apply Z.Takes.cons; (repeat (first | with_reducible exact Z.Take.here | apply Z.Take.there))))) (by repeat (first | with_reducible exact Z.Drop.nil | apply Z.Drop.cons)))
      · try (with_reducible first | replace hc11 := of_decide_eq_true hc11 | replace hc11 := of_decide_eq_false hc11 | replace hc11 := Z.nd_true hc11 | replace hc11 := Z.nd_false hc11 | replace hc11 := Z.nn_true hc11 | replace hc11 := Z.nn_false hc11 | replace hc11 := Z.nb_true hc11 | replace hc11 := Z.nb_false hc11)
        first
        | (exfalso; first | (cases hc11; done) | omega)
        | skip
          refine Z.j_seq ?_
          refine Z.j_region ?_
          refine Z.s_val (Z.pv_loadA rfl (by repeat (first | with_reducible exact Z.Take.here | apply Z.Take.there)) Try.isAgg61 Try.sizeOf61 (by rfl)) ?_
          refine Z.s_val (Z.pv_loadA rfl (by repeat (first | with_reducible exact Z.Take.here | apply Z.Take.there)) Try.isAgg44 Try.sizeOf44 (by rfl)) ?_
          refine Z.s_callD rfl rfl rfl isFn34 (by repeat (first | with_reducible exact Z.Takes.nil | (apply Z.Takes.cons; (repeat (first | with_reducible exact Z.Take.here | apply Z.Take.there))))) (by repeat (first | exact Z.App.nil | apply Z.App.cons)) (inside_spec _ _ 0 (by omega) (by omega) (by omega) _ _) ?_
          refine Z.s_val (Z.pv_assign rfl) ?_
          refine Z.j_nil ?_
          refine Z.j_then ?_
          refine Z.j_cond rfl (fun hc19 => ?_) (fun hc19 => ?_)
          · try (with_reducible first | replace hc19 := of_decide_eq_true hc19 | replace hc19 := of_decide_eq_false hc19 | replace hc19 := Z.nd_true hc19 | replace hc19 := Z.nd_false hc19 | replace hc19 := Z.nn_true hc19 | replace hc19 := Z.nn_false hc19 | replace hc19 := Z.nb_true hc19 | replace hc19 := Z.nb_false hc19)
            first
            | (exfalso; first | (cases hc19; done) | omega)
            | skip
              refine Z.j_seq ?_
              refine Z.j_region ?_
              refine Z.s_val (Z.pv_move rfl) ?_
              refine Z.s_val (Z.pv_move rfl) ?_
              refine Z.s_callD rfl rfl rfl isFn37 (by repeat (first | with_reducible exact Z.Takes.nil | (apply Z.Takes.cons; (repeat (first | with_reducible exact Z.Take.here | apply Z.Take.there))))) (by repeat (first | exact Z.App.nil | apply Z.App.cons)) (kill_spec _ _ _ _ _ _ (by omega)) ?_
              refine Z.j_nil ?_
              refine Z.j_then ?_
              refine Z.j_ret ?_
              refine Z.j_blk_ret ?_
              refine Z.j_then_ret ?_
              refine Z.j_done_ret Z.rv0 ?_
              first | (exfalso; exact io_0 hc11 hc19) | (rw [cut_z (by omega)]; exact Z.post_of ⟨rfl, rfl⟩ (by repeat (first | with_reducible exact Z.Takes.nil | (apply Z.Takes.cons; (repeat (first | with_reducible exact Z.Take.here | apply Z.Take.there))))) (by repeat (first | with_reducible exact Z.Drop.nil | apply Z.Drop.cons))) | (rw [cut_o hc11]; exact Z.post_of ⟨rfl, rfl⟩ (by repeat (first | with_reducible exact Z.Takes.nil | (apply Z.Takes.cons; (repeat (first | with_reducible exact Z.Take.here | apply Z.Take.there))))) (by repeat (first | with_reducible exact Z.Drop.nil | apply Z.Drop.cons))) | (rw [cut_i (by omega) hc11 hc19]; exact Z.post_of ⟨rfl, rfl⟩ (by repeat (first | with_reducible exact Z.Takes.nil | (apply Z.Takes.cons; (repeat (first | with_reducible exact Z.Take.here | apply Z.Take.there))))) (by repeat (first | with_reducible exact Z.Drop.nil | apply Z.Drop.cons)))
          · try (with_reducible first | replace hc19 := of_decide_eq_true hc19 | replace hc19 := of_decide_eq_false hc19 | replace hc19 := Z.nd_true hc19 | replace hc19 := Z.nd_false hc19 | replace hc19 := Z.nn_true hc19 | replace hc19 := Z.nn_false hc19 | replace hc19 := Z.nb_true hc19 | replace hc19 := Z.nb_false hc19)
            exact (io_0 hc11 hc19).elim

set_option maxHeartbeats 4000000 in
set_option maxRecDepth 100000 in
theorem cut1_spec (w0 : World) (tb ab : Nat) (r : Int) (A : Ar) (s t i lo : Int) (hA : A.ok) (hi : 0 ≤ i ∧ i ≤ 4194304) (h0 : 0 ≤ lo) (h : Nat) (hh : h + 1 ≤ 32) (h1 : lo + pw (h + 1) ≤ 4294967296) (ih : ∀ w0 A i lo, A.ok → (0 ≤ i ∧ i ≤ 4194304) → 0 ≤ lo → lo + pw h ≤ 4294967296 → Z.FnD Try.prog w0 23 [.pointer (some ⟨tb, 0, none⟩), .int .i32 i, .agg #[.int .u32 lo, .int .i64 h], .agg #[.int .u32 s, .int .u32 t]] [Z.cl tb 52 [.pointer (some ⟨ab, 0, none⟩), .int .i32 r], Arena ab A] (.tuple #[]) [Z.cl tb 52 [.pointer (some ⟨ab, 0, none⟩), .int .i32 r], Arena ab (Ar.cut s t h A i lo)]) : Z.FnD Try.prog w0 23 [.pointer (some ⟨tb, 0, none⟩), .int .i32 i, .agg #[.int .u32 lo, .int .i64 ((h + 1) : Nat)], .agg #[.int .u32 s, .int .u32 t]] [Z.cl tb 52 [.pointer (some ⟨ab, 0, none⟩), .int .i32 r], Arena ab A] (.tuple #[]) [Z.cl tb 52 [.pointer (some ⟨ab, 0, none⟩), .int .i32 r], Arena ab (Ar.cut s t (h + 1) A i lo)] := by
  have hP := pushed_ok (i := i) hA
  obtain ⟨⟨hl1, hl2⟩, hl3, hl4⟩ := node_ok (i := i) hA
  have hw := pw_succ h
  have hw0 := pw_pos h
  have hN := cut_ok s t h _ (A.node i).l lo hP
  have hN2 := cut_ok s t h _ (A.node i).r (lo + pw h) hN
  refine Z.Fn.fnD ?_
  refine Z.fn_enter (n := 50) Try.func23 rfl (by rfl) (by rfl) (fun Fr => ?_)
  refine Z.j_app (by repeat (first | exact Z.App.nil | apply Z.App.cons)) ?_
  refine Z.j_seq ?_
  refine Z.j_region ?_
  refine Z.s_box rfl (fun b6 => ?_)
  refine Z.s_box rfl (fun b7 => ?_)
  refine Z.j_nil ?_
  refine Z.j_then ?_
  refine Z.j_seq ?_
  refine Z.j_block ?_
  refine Z.j_seq ?_
  refine Z.j_region ?_
  refine Z.s_val (Z.pv_move rfl) ?_
  refine Z.s_val (Z.pv_eql rfl rfl) ?_
  refine Z.s_val (Z.pv_move rfl) ?_
  refine Z.s_split 14 rfl (fun hg14 => ?_) (fun hg14 => ?_)
  · try (with_reducible first | replace hg14 := of_decide_eq_true hg14 | replace hg14 := of_decide_eq_false hg14 | replace hg14 := Z.nd_true hg14 | replace hg14 := Z.nd_false hg14 | replace hg14 := Z.nn_true hg14 | replace hg14 := Z.nn_false hg14 | replace hg14 := Z.nb_true hg14 | replace hg14 := Z.nb_false hg14)
    first
    | (exfalso; first | (cases hg14; done) | omega)
    | skip
      refine Z.s_skip ?_
      refine Z.s_skip ?_
      refine Z.s_skip ?_
      refine Z.s_val (Z.pv_pick rfl rfl) ?_
      refine Z.s_val (Z.pv_assign rfl) ?_
      refine Z.j_nil ?_
      refine Z.j_then ?_
      refine Z.j_cond rfl (fun hc11 => ?_) (fun hc11 => ?_)
      · try (with_reducible first | replace hc11 := of_decide_eq_true hc11 | replace hc11 := of_decide_eq_false hc11 | replace hc11 := Z.nd_true hc11 | replace hc11 := Z.nd_false hc11 | replace hc11 := Z.nn_true hc11 | replace hc11 := Z.nn_false hc11 | replace hc11 := Z.nb_true hc11 | replace hc11 := Z.nb_false hc11)
        first
        | (exfalso; first | (cases hc11; done) | omega)
        | skip
          refine Z.j_ret ?_
          refine Z.j_blk_ret ?_
          refine Z.j_then_ret ?_
          refine Z.j_done_ret Z.rv0 ?_
          first | (exfalso; exact io_0 hc11 hc19) | (rw [cut_z (by omega)]; exact Z.post_of ⟨rfl, rfl⟩ (by repeat (first | with_reducible exact Z.Takes.nil | (apply Z.Takes.cons; (repeat (first | with_reducible exact Z.Take.here | apply Z.Take.there))))) (by repeat (first | with_reducible exact Z.Drop.nil | apply Z.Drop.cons))) | (rw [cut_o hc11]; exact Z.post_of ⟨rfl, rfl⟩ (by repeat (first | with_reducible exact Z.Takes.nil | (apply Z.Takes.cons; (repeat (first | with_reducible exact Z.Take.here | apply Z.Take.there))))) (by repeat (first | with_reducible exact Z.Drop.nil | apply Z.Drop.cons))) | (rw [cut_i (by omega) hc11 hc19]; exact Z.post_of ⟨rfl, rfl⟩ (by repeat (first | with_reducible exact Z.Takes.nil | (apply Z.Takes.cons; (repeat (first | with_reducible exact Z.Take.here | apply Z.Take.there))))) (by repeat (first | with_reducible exact Z.Drop.nil | apply Z.Drop.cons))) | (rw [cut_s (by omega) hc11 hc19]; exact Z.post_of ⟨rfl, rfl⟩ (by repeat (first | with_reducible exact Z.Takes.nil | (apply Z.Takes.cons; (repeat (first | with_reducible exact Z.Take.here | apply Z.Take.there))))) (by repeat (first | with_reducible exact Z.Drop.nil | apply Z.Drop.cons)))
      · try (with_reducible first | replace hc11 := of_decide_eq_true hc11 | replace hc11 := of_decide_eq_false hc11 | replace hc11 := Z.nd_true hc11 | replace hc11 := Z.nd_false hc11 | replace hc11 := Z.nn_true hc11 | replace hc11 := Z.nn_false hc11 | replace hc11 := Z.nb_true hc11 | replace hc11 := Z.nb_false hc11)
        first
        | (exfalso; first | (cases hc11; done) | omega)
        | skip
          refine Z.j_seq ?_
          refine Z.j_region ?_
          refine Z.s_val (Z.pv_loadA rfl (by repeat (first | with_reducible exact Z.Take.here | apply Z.Take.there)) Try.isAgg61 Try.sizeOf61 (by rfl)) ?_
          refine Z.s_val (Z.pv_loadA rfl (by repeat (first | with_reducible exact Z.Take.here | apply Z.Take.there)) Try.isAgg44 Try.sizeOf44 (by rfl)) ?_
          refine Z.s_callD rfl rfl rfl isFn34 (by repeat (first | with_reducible exact Z.Takes.nil | (apply Z.Takes.cons; (repeat (first | with_reducible exact Z.Take.here | apply Z.Take.there))))) (by repeat (first | exact Z.App.nil | apply Z.App.cons)) (inside_spec _ _ (h + 1) (by omega) (by omega) (by omega) _ _) ?_
          refine Z.s_val (Z.pv_assign rfl) ?_
          refine Z.j_nil ?_
          refine Z.j_then ?_
          refine Z.j_cond rfl (fun hc19 => ?_) (fun hc19 => ?_)
          · try (with_reducible first | replace hc19 := of_decide_eq_true hc19 | replace hc19 := of_decide_eq_false hc19 | replace hc19 := Z.nd_true hc19 | replace hc19 := Z.nd_false hc19 | replace hc19 := Z.nn_true hc19 | replace hc19 := Z.nn_false hc19 | replace hc19 := Z.nb_true hc19 | replace hc19 := Z.nb_false hc19)
            first
            | (exfalso; first | (cases hc19; done) | omega)
            | skip
              refine Z.j_seq ?_
              refine Z.j_region ?_
              refine Z.s_val (Z.pv_move rfl) ?_
              refine Z.s_val (Z.pv_move rfl) ?_
              refine Z.s_callD rfl rfl rfl isFn37 (by repeat (first | with_reducible exact Z.Takes.nil | (apply Z.Takes.cons; (repeat (first | with_reducible exact Z.Take.here | apply Z.Take.there))))) (by repeat (first | exact Z.App.nil | apply Z.App.cons)) (kill_spec _ _ _ _ _ _ (by omega)) ?_
              refine Z.j_nil ?_
              refine Z.j_then ?_
              refine Z.j_ret ?_
              refine Z.j_blk_ret ?_
              refine Z.j_then_ret ?_
              refine Z.j_done_ret Z.rv0 ?_
              first | (exfalso; exact io_0 hc11 hc19) | (rw [cut_z (by omega)]; exact Z.post_of ⟨rfl, rfl⟩ (by repeat (first | with_reducible exact Z.Takes.nil | (apply Z.Takes.cons; (repeat (first | with_reducible exact Z.Take.here | apply Z.Take.there))))) (by repeat (first | with_reducible exact Z.Drop.nil | apply Z.Drop.cons))) | (rw [cut_o hc11]; exact Z.post_of ⟨rfl, rfl⟩ (by repeat (first | with_reducible exact Z.Takes.nil | (apply Z.Takes.cons; (repeat (first | with_reducible exact Z.Take.here | apply Z.Take.there))))) (by repeat (first | with_reducible exact Z.Drop.nil | apply Z.Drop.cons))) | (rw [cut_i (by omega) hc11 hc19]; exact Z.post_of ⟨rfl, rfl⟩ (by repeat (first | with_reducible exact Z.Takes.nil | (apply Z.Takes.cons; (repeat (first | with_reducible exact Z.Take.here | apply Z.Take.there))))) (by repeat (first | with_reducible exact Z.Drop.nil | apply Z.Drop.cons))) | (rw [cut_s (by omega) hc11 hc19]; exact Z.post_of ⟨rfl, rfl⟩ (by repeat (first | with_reducible exact Z.Takes.nil | (apply Z.Takes.cons; (repeat (first | with_reducible exact Z.Take.here | apply Z.Take.there))))) (by repeat (first | with_reducible exact Z.Drop.nil | apply Z.Drop.cons)))
          · try (with_reducible first | replace hc19 := of_decide_eq_true hc19 | replace hc19 := of_decide_eq_false hc19 | replace hc19 := Z.nd_true hc19 | replace hc19 := Z.nd_false hc19 | replace hc19 := Z.nn_true hc19 | replace hc19 := Z.nn_false hc19 | replace hc19 := Z.nb_true hc19 | replace hc19 := Z.nb_false hc19)
            first
            | (exfalso; first | (cases hc19; done) | omega)
            | skip
              refine Z.j_skip ?_
              refine Z.j_blk ?_
              refine Z.j_then ?_
              refine Z.j_seq ?_
              refine Z.j_region ?_
              refine Z.s_val (Z.pv_move rfl) ?_
              refine Z.s_val (Z.pv_move rfl) ?_
              refine Z.s_callD rfl rfl rfl isFn27 (by repeat (first | with_reducible exact Z.Takes.nil | (apply Z.Takes.cons; (repeat (first | with_reducible exact Z.Take.here | apply Z.Take.there))))) (by repeat (first | exact Z.App.nil | apply Z.App.cons)) (push_spec _ _ _ _ _ _ (by assumption) (by omega)) ?_
              refine Z.s_alloc Try.zeroValue69 (fun b8 => ?_)
              refine Z.s_storeA rfl rfl Try.sizeOf69 rfl (by repeat (first | with_reducible exact Z.Upd.here | apply Z.Upd.there)) (by rfl) ?_
              refine Z.j_nil ?_
              refine Z.j_then ?_
              refine Z.j_seq ?_
              refine Z.j_region ?_
              refine Z.s_val (Z.pv_loadA rfl (by repeat (first | with_reducible exact Z.Take.here | apply Z.Take.there)) Try.isAgg61 Try.sizeOf61 (by rfl)) ?_
              refine Z.s_callD rfl rfl rfl isFn35 (by repeat (first | with_reducible exact Z.Takes.nil | (apply Z.Takes.cons; (repeat (first | with_reducible exact Z.Take.here | apply Z.Take.there))))) (by repeat (first | exact Z.App.nil | apply Z.App.cons)) (halves_spec _ _ h (by omega) (by omega) (by omega)) ?_
              refine Z.s_val (Z.pv_move rfl) ?_
              refine Z.s_val (Z.pv_extract rfl rfl) ?_
              refine Z.s_val (Z.pv_extract rfl rfl) ?_
              refine Z.s_alloc Try.zeroValue61 (fun b9 => ?_)
              refine Z.s_alloc Try.zeroValue61 (fun b10 => ?_)
              refine Z.s_storeA rfl rfl Try.sizeOf61 rfl (by repeat (first | with_reducible exact Z.Upd.here | apply Z.Upd.there)) (by rfl) ?_
              refine Z.s_storeA rfl rfl Try.sizeOf61 rfl (by repeat (first | with_reducible exact Z.Upd.here | apply Z.Upd.there)) (by rfl) ?_
              refine Z.j_nil ?_
              refine Z.j_then ?_
              refine Z.j_seq ?_
              refine Z.j_region ?_
              refine Z.s_val (Z.pv_move rfl) ?_
              refine Z.s_val (Z.pv_fieldAddr (o' := 0) rfl Try.underlying69 rfl Try.sizeOf21 rfl) ?_
              refine Z.s_val (Z.pv_load1 rfl (by repeat (first | with_reducible exact Z.Take.here | apply Z.Take.there)) Try.isAgg21 (by rfl)) ?_
              refine Z.s_val (Z.pv_loadA rfl (by repeat (first | with_reducible exact Z.Take.here | apply Z.Take.there)) Try.isAgg61 Try.sizeOf61 (by rfl)) ?_
              refine Z.s_val (Z.pv_loadA rfl (by repeat (first | with_reducible exact Z.Take.here | apply Z.Take.there)) Try.isAgg44 Try.sizeOf44 (by rfl)) ?_
              refine Z.s_callD rfl rfl rfl isFn23 (by repeat (first | with_reducible exact Z.Takes.nil | (apply Z.Takes.cons; (repeat (first | with_reducible exact Z.Take.here | apply Z.Take.there))))) (by repeat (first | exact Z.App.nil | apply Z.App.cons)) (ih _ _ _ _ (by assumption) (by omega) (by omega) (by omega)) ?_
              refine Z.j_nil ?_
              refine Z.j_then ?_
              refine Z.j_seq ?_
              refine Z.j_region ?_
              refine Z.s_val (Z.pv_move rfl) ?_
              refine Z.s_val (Z.pv_fieldAddr (o' := 1) rfl Try.underlying69 rfl Try.sizeOf21 rfl) ?_
              refine Z.s_val (Z.pv_load1 rfl (by repeat (first | with_reducible exact Z.Take.here | apply Z.Take.there)) Try.isAgg21 (by rfl)) ?_
              refine Z.s_val (Z.pv_loadA rfl (by repeat (first | with_reducible exact Z.Take.here | apply Z.Take.there)) Try.isAgg61 Try.sizeOf61 (by rfl)) ?_
              refine Z.s_val (Z.pv_loadA rfl (by repeat (first | with_reducible exact Z.Take.here | apply Z.Take.there)) Try.isAgg44 Try.sizeOf44 (by rfl)) ?_
              refine Z.s_callD rfl rfl rfl isFn23 (by repeat (first | with_reducible exact Z.Takes.nil | (apply Z.Takes.cons; (repeat (first | with_reducible exact Z.Take.here | apply Z.Take.there))))) (by repeat (first | exact Z.App.nil | apply Z.App.cons)) (ih _ _ _ _ (by assumption) (by omega) (by omega) (by omega)) ?_
              refine Z.j_nil ?_
              refine Z.j_then ?_
              refine Z.j_region ?_
              refine Z.s_val (Z.pv_move rfl) ?_
              refine Z.s_val (Z.pv_move rfl) ?_
              refine Z.s_val (Z.pv_loadA rfl (by repeat (first | with_reducible exact Z.Take.here | apply Z.Take.there)) Try.isAgg69 Try.sizeOf69 (by rfl)) ?_
              refine Z.s_callD rfl rfl rfl isFn30 (by repeat (first | with_reducible exact Z.Takes.nil | (apply Z.Takes.cons; (repeat (first | with_reducible exact Z.Take.here | apply Z.Take.there))))) (by repeat (first | exact Z.App.nil | apply Z.App.cons)) (joinx_spec _ _ _ _ _ _ _ _ _ _ _ _ _ (by omega) (by omega)) ?_
              refine Z.j_nil ?_
              refine Z.j_done Z.rv0 ?_
              first | (exfalso; exact io_0 hc11 hc19) | (rw [cut_z (by omega)]; exact Z.post_of ⟨rfl, rfl⟩ (by repeat (first | with_reducible exact Z.Takes.nil | (apply Z.Takes.cons; (repeat (first | with_reducible exact Z.Take.here | apply Z.Take.there))))) (by repeat (first | with_reducible exact Z.Drop.nil | apply Z.Drop.cons))) | (rw [cut_o hc11]; exact Z.post_of ⟨rfl, rfl⟩ (by repeat (first | with_reducible exact Z.Takes.nil | (apply Z.Takes.cons; (repeat (first | with_reducible exact Z.Take.here | apply Z.Take.there))))) (by repeat (first | with_reducible exact Z.Drop.nil | apply Z.Drop.cons))) | (rw [cut_i (by omega) hc11 hc19]; exact Z.post_of ⟨rfl, rfl⟩ (by repeat (first | with_reducible exact Z.Takes.nil | (apply Z.Takes.cons; (repeat (first | with_reducible exact Z.Take.here | apply Z.Take.there))))) (by repeat (first | with_reducible exact Z.Drop.nil | apply Z.Drop.cons))) | (rw [cut_s (by omega) hc11 hc19]; exact Z.post_of ⟨rfl, rfl⟩ (by repeat (first | with_reducible exact Z.Takes.nil | (apply Z.Takes.cons; (repeat (first | with_reducible exact Z.Take.here | apply Z.Take.there))))) (by repeat (first | with_reducible exact Z.Drop.nil | apply Z.Drop.cons)))
  · try (with_reducible first | replace hg14 := of_decide_eq_true hg14 | replace hg14 := of_decide_eq_false hg14 | replace hg14 := Z.nd_true hg14 | replace hg14 := Z.nd_false hg14 | replace hg14 := Z.nn_true hg14 | replace hg14 := Z.nn_false hg14 | replace hg14 := Z.nb_true hg14 | replace hg14 := Z.nb_false hg14)
    first
    | (exfalso; first | (cases hg14; done) | omega)
    | skip
      refine Z.s_val (Z.pv_loadA rfl (by repeat (first | with_reducible exact Z.Take.here | apply Z.Take.there)) Try.isAgg61 Try.sizeOf61 (by rfl)) ?_
      refine Z.s_val (Z.pv_loadA rfl (by repeat (first | with_reducible exact Z.Take.here | apply Z.Take.there)) Try.isAgg44 Try.sizeOf44 (by rfl)) ?_
      refine Z.s_callD rfl rfl rfl isFn33 (by repeat (first | with_reducible exact Z.Takes.nil | (apply Z.Takes.cons; (repeat (first | with_reducible exact Z.Take.here | apply Z.Take.there))))) (by repeat (first | exact Z.App.nil | apply Z.App.cons)) (outside_spec _ _ (h + 1) (by omega) (by omega) (by omega) _ _) ?_
      refine Z.s_val (Z.pv_pick rfl rfl) ?_
      refine Z.s_val (Z.pv_assign rfl) ?_
      refine Z.j_nil ?_
      refine Z.j_then ?_
      refine Z.j_cond rfl (fun hc11 => ?_) (fun hc11 => ?_)
      · try (with_reducible first | replace hc11 := of_decide_eq_true hc11 | replace hc11 := of_decide_eq_false hc11 | replace hc11 := Z.nd_true hc11 | replace hc11 := Z.nd_false hc11 | replace hc11 := Z.nn_true hc11 | replace hc11 := Z.nn_false hc11 | replace hc11 := Z.nb_true hc11 | replace hc11 := Z.nb_false hc11)
        first
        | (exfalso; first | (cases hc11; done) | omega)
        | skip
          refine Z.j_ret ?_
          refine Z.j_blk_ret ?_
          refine Z.j_then_ret ?_
          refine Z.j_done_ret Z.rv0 ?_
          first | (exfalso; exact io_0 hc11 hc19) | (rw [cut_z (by omega)]; exact Z.post_of ⟨rfl, rfl⟩ (by repeat (first | with_reducible exact Z.Takes.nil | (apply Z.Takes.cons; (repeat (first | with_reducible exact Z.Take.here | apply Z.Take.there))))) (by repeat (first | with_reducible exact Z.Drop.nil | apply Z.Drop.cons))) | (rw [cut_o hc11]; exact Z.post_of ⟨rfl, rfl⟩ (by repeat (first | with_reducible exact Z.Takes.nil | (apply Z.Takes.cons; (repeat (first | with_reducible exact Z.Take.here | apply Z.Take.there))))) (by repeat (first | with_reducible exact Z.Drop.nil | apply Z.Drop.cons))) | (rw [cut_i (by omega) hc11 hc19]; exact Z.post_of ⟨rfl, rfl⟩ (by repeat (first | with_reducible exact Z.Takes.nil | (apply Z.Takes.cons; (repeat (first | with_reducible exact Z.Take.here | apply Z.Take.there))))) (by repeat (first | with_reducible exact Z.Drop.nil | apply Z.Drop.cons))) | (rw [cut_s (by omega) hc11 hc19]; exact Z.post_of ⟨rfl, rfl⟩ (by repeat (first | with_reducible exact Z.Takes.nil | (apply Z.Takes.cons; (repeat (first | with_reducible exact Z.Take.here | apply Z.Take.there))))) (by repeat (first | with_reducible exact Z.Drop.nil | apply Z.Drop.cons)))
      · try (with_reducible first | replace hc11 := of_decide_eq_true hc11 | replace hc11 := of_decide_eq_false hc11 | replace hc11 := Z.nd_true hc11 | replace hc11 := Z.nd_false hc11 | replace hc11 := Z.nn_true hc11 | replace hc11 := Z.nn_false hc11 | replace hc11 := Z.nb_true hc11 | replace hc11 := Z.nb_false hc11)
        first
        | (exfalso; first | (cases hc11; done) | omega)
        | skip
          refine Z.j_seq ?_
          refine Z.j_region ?_
          refine Z.s_val (Z.pv_loadA rfl (by repeat (first | with_reducible exact Z.Take.here | apply Z.Take.there)) Try.isAgg61 Try.sizeOf61 (by rfl)) ?_
          refine Z.s_val (Z.pv_loadA rfl (by repeat (first | with_reducible exact Z.Take.here | apply Z.Take.there)) Try.isAgg44 Try.sizeOf44 (by rfl)) ?_
          refine Z.s_callD rfl rfl rfl isFn34 (by repeat (first | with_reducible exact Z.Takes.nil | (apply Z.Takes.cons; (repeat (first | with_reducible exact Z.Take.here | apply Z.Take.there))))) (by repeat (first | exact Z.App.nil | apply Z.App.cons)) (inside_spec _ _ (h + 1) (by omega) (by omega) (by omega) _ _) ?_
          refine Z.s_val (Z.pv_assign rfl) ?_
          refine Z.j_nil ?_
          refine Z.j_then ?_
          refine Z.j_cond rfl (fun hc19 => ?_) (fun hc19 => ?_)
          · try (with_reducible first | replace hc19 := of_decide_eq_true hc19 | replace hc19 := of_decide_eq_false hc19 | replace hc19 := Z.nd_true hc19 | replace hc19 := Z.nd_false hc19 | replace hc19 := Z.nn_true hc19 | replace hc19 := Z.nn_false hc19 | replace hc19 := Z.nb_true hc19 | replace hc19 := Z.nb_false hc19)
            first
            | (exfalso; first | (cases hc19; done) | omega)
            | skip
              refine Z.j_seq ?_
              refine Z.j_region ?_
              refine Z.s_val (Z.pv_move rfl) ?_
              refine Z.s_val (Z.pv_move rfl) ?_
              refine Z.s_callD rfl rfl rfl isFn37 (by repeat (first | with_reducible exact Z.Takes.nil | (apply Z.Takes.cons; (repeat (first | with_reducible exact Z.Take.here | apply Z.Take.there))))) (by repeat (first | exact Z.App.nil | apply Z.App.cons)) (kill_spec _ _ _ _ _ _ (by omega)) ?_
              refine Z.j_nil ?_
              refine Z.j_then ?_
              refine Z.j_ret ?_
              refine Z.j_blk_ret ?_
              refine Z.j_then_ret ?_
              refine Z.j_done_ret Z.rv0 ?_
              first | (exfalso; exact io_0 hc11 hc19) | (rw [cut_z (by omega)]; exact Z.post_of ⟨rfl, rfl⟩ (by repeat (first | with_reducible exact Z.Takes.nil | (apply Z.Takes.cons; (repeat (first | with_reducible exact Z.Take.here | apply Z.Take.there))))) (by repeat (first | with_reducible exact Z.Drop.nil | apply Z.Drop.cons))) | (rw [cut_o hc11]; exact Z.post_of ⟨rfl, rfl⟩ (by repeat (first | with_reducible exact Z.Takes.nil | (apply Z.Takes.cons; (repeat (first | with_reducible exact Z.Take.here | apply Z.Take.there))))) (by repeat (first | with_reducible exact Z.Drop.nil | apply Z.Drop.cons))) | (rw [cut_i (by omega) hc11 hc19]; exact Z.post_of ⟨rfl, rfl⟩ (by repeat (first | with_reducible exact Z.Takes.nil | (apply Z.Takes.cons; (repeat (first | with_reducible exact Z.Take.here | apply Z.Take.there))))) (by repeat (first | with_reducible exact Z.Drop.nil | apply Z.Drop.cons))) | (rw [cut_s (by omega) hc11 hc19]; exact Z.post_of ⟨rfl, rfl⟩ (by repeat (first | with_reducible exact Z.Takes.nil | (apply Z.Takes.cons; (repeat (first | with_reducible exact Z.Take.here | apply Z.Take.there))))) (by repeat (first | with_reducible exact Z.Drop.nil | apply Z.Drop.cons)))
          · try (with_reducible first | replace hc19 := of_decide_eq_true hc19 | replace hc19 := of_decide_eq_false hc19 | replace hc19 := Z.nd_true hc19 | replace hc19 := Z.nd_false hc19 | replace hc19 := Z.nn_true hc19 | replace hc19 := Z.nn_false hc19 | replace hc19 := Z.nb_true hc19 | replace hc19 := Z.nb_false hc19)
            first
            | (exfalso; first | (cases hc19; done) | omega)
            | skip
              refine Z.j_skip ?_
              refine Z.j_blk ?_
              refine Z.j_then ?_
              refine Z.j_seq ?_
              refine Z.j_region ?_
              refine Z.s_val (Z.pv_move rfl) ?_
              refine Z.s_val (Z.pv_move rfl) ?_
              refine Z.s_callD rfl rfl rfl isFn27 (by repeat (first | with_reducible exact Z.Takes.nil | (apply Z.Takes.cons; (repeat (first | with_reducible exact Z.Take.here | apply Z.Take.there))))) (by repeat (first | exact Z.App.nil | apply Z.App.cons)) (push_spec _ _ _ _ _ _ (by assumption) (by omega)) ?_
              refine Z.s_alloc Try.zeroValue69 (fun b8 => ?_)
              refine Z.s_storeA rfl rfl Try.sizeOf69 rfl (by repeat (first | with_reducible exact Z.Upd.here | apply Z.Upd.there)) (by rfl) ?_
              refine Z.j_nil ?_
              refine Z.j_then ?_
              refine Z.j_seq ?_
              refine Z.j_region ?_
              refine Z.s_val (Z.pv_loadA rfl (by repeat (first | with_reducible exact Z.Take.here | apply Z.Take.there)) Try.isAgg61 Try.sizeOf61 (by rfl)) ?_
              refine Z.s_callD rfl rfl rfl isFn35 (by repeat (first | with_reducible exact Z.Takes.nil | (apply Z.Takes.cons; (repeat (first | with_reducible exact Z.Take.here | apply Z.Take.there))))) (by repeat (first | exact Z.App.nil | apply Z.App.cons)) (halves_spec _ _ h (by omega) (by omega) (by omega)) ?_
              refine Z.s_val (Z.pv_move rfl) ?_
              refine Z.s_val (Z.pv_extract rfl rfl) ?_
              refine Z.s_val (Z.pv_extract rfl rfl) ?_
              refine Z.s_alloc Try.zeroValue61 (fun b9 => ?_)
              refine Z.s_alloc Try.zeroValue61 (fun b10 => ?_)
              refine Z.s_storeA rfl rfl Try.sizeOf61 rfl (by repeat (first | with_reducible exact Z.Upd.here | apply Z.Upd.there)) (by rfl) ?_
              refine Z.s_storeA rfl rfl Try.sizeOf61 rfl (by repeat (first | with_reducible exact Z.Upd.here | apply Z.Upd.there)) (by rfl) ?_
              refine Z.j_nil ?_
              refine Z.j_then ?_
              refine Z.j_seq ?_
              refine Z.j_region ?_
              refine Z.s_val (Z.pv_move rfl) ?_
              refine Z.s_val (Z.pv_fieldAddr (o' := 0) rfl Try.underlying69 rfl Try.sizeOf21 rfl) ?_
              refine Z.s_val (Z.pv_load1 rfl (by repeat (first | with_reducible exact Z.Take.here | apply Z.Take.there)) Try.isAgg21 (by rfl)) ?_
              refine Z.s_val (Z.pv_loadA rfl (by repeat (first | with_reducible exact Z.Take.here | apply Z.Take.there)) Try.isAgg61 Try.sizeOf61 (by rfl)) ?_
              refine Z.s_val (Z.pv_loadA rfl (by repeat (first | with_reducible exact Z.Take.here | apply Z.Take.there)) Try.isAgg44 Try.sizeOf44 (by rfl)) ?_
              refine Z.s_callD rfl rfl rfl isFn23 (by repeat (first | with_reducible exact Z.Takes.nil | (apply Z.Takes.cons; (repeat (first | with_reducible exact Z.Take.here | apply Z.Take.there))))) (by repeat (first | exact Z.App.nil | apply Z.App.cons)) (ih _ _ _ _ (by assumption) (by omega) (by omega) (by omega)) ?_
              refine Z.j_nil ?_
              refine Z.j_then ?_
              refine Z.j_seq ?_
              refine Z.j_region ?_
              refine Z.s_val (Z.pv_move rfl) ?_
              refine Z.s_val (Z.pv_fieldAddr (o' := 1) rfl Try.underlying69 rfl Try.sizeOf21 rfl) ?_
              refine Z.s_val (Z.pv_load1 rfl (by repeat (first | with_reducible exact Z.Take.here | apply Z.Take.there)) Try.isAgg21 (by rfl)) ?_
              refine Z.s_val (Z.pv_loadA rfl (by repeat (first | with_reducible exact Z.Take.here | apply Z.Take.there)) Try.isAgg61 Try.sizeOf61 (by rfl)) ?_
              refine Z.s_val (Z.pv_loadA rfl (by repeat (first | with_reducible exact Z.Take.here | apply Z.Take.there)) Try.isAgg44 Try.sizeOf44 (by rfl)) ?_
              refine Z.s_callD rfl rfl rfl isFn23 (by repeat (first | with_reducible exact Z.Takes.nil | (apply Z.Takes.cons; (repeat (first | with_reducible exact Z.Take.here | apply Z.Take.there))))) (by repeat (first | exact Z.App.nil | apply Z.App.cons)) (ih _ _ _ _ (by assumption) (by omega) (by omega) (by omega)) ?_
              refine Z.j_nil ?_
              refine Z.j_then ?_
              refine Z.j_region ?_
              refine Z.s_val (Z.pv_move rfl) ?_
              refine Z.s_val (Z.pv_move rfl) ?_
              refine Z.s_val (Z.pv_loadA rfl (by repeat (first | with_reducible exact Z.Take.here | apply Z.Take.there)) Try.isAgg69 Try.sizeOf69 (by rfl)) ?_
              refine Z.s_callD rfl rfl rfl isFn30 (by repeat (first | with_reducible exact Z.Takes.nil | (apply Z.Takes.cons; (repeat (first | with_reducible exact Z.Take.here | apply Z.Take.there))))) (by repeat (first | exact Z.App.nil | apply Z.App.cons)) (joinx_spec _ _ _ _ _ _ _ _ _ _ _ _ _ (by omega) (by omega)) ?_
              refine Z.j_nil ?_
              refine Z.j_done Z.rv0 ?_
              first | (exfalso; exact io_0 hc11 hc19) | (rw [cut_z (by omega)]; exact Z.post_of ⟨rfl, rfl⟩ (by repeat (first | with_reducible exact Z.Takes.nil | (apply Z.Takes.cons; (repeat (first | with_reducible exact Z.Take.here | apply Z.Take.there))))) (by repeat (first | with_reducible exact Z.Drop.nil | apply Z.Drop.cons))) | (rw [cut_o hc11]; exact Z.post_of ⟨rfl, rfl⟩ (by repeat (first | with_reducible exact Z.Takes.nil | (apply Z.Takes.cons; (repeat (first | with_reducible exact Z.Take.here | apply Z.Take.there))))) (by repeat (first | with_reducible exact Z.Drop.nil | apply Z.Drop.cons))) | (rw [cut_i (by omega) hc11 hc19]; exact Z.post_of ⟨rfl, rfl⟩ (by repeat (first | with_reducible exact Z.Takes.nil | (apply Z.Takes.cons; (repeat (first | with_reducible exact Z.Take.here | apply Z.Take.there))))) (by repeat (first | with_reducible exact Z.Drop.nil | apply Z.Drop.cons))) | (rw [cut_s (by omega) hc11 hc19]; exact Z.post_of ⟨rfl, rfl⟩ (by repeat (first | with_reducible exact Z.Takes.nil | (apply Z.Takes.cons; (repeat (first | with_reducible exact Z.Take.here | apply Z.Take.there))))) (by repeat (first | with_reducible exact Z.Drop.nil | apply Z.Drop.cons)))


theorem cut_all (tb ab : Nat) (r s t : Int) (h : Nat) : h ≤ 32 → ∀ w0 A i lo, A.ok → (0 ≤ i ∧ i ≤ 4194304) → 0 ≤ lo → lo + pw h ≤ 4294967296 → Z.FnD Try.prog w0 23 [.pointer (some ⟨tb, 0, none⟩), .int .i32 i, .agg #[.int .u32 lo, .int .i64 h], .agg #[.int .u32 s, .int .u32 t]] [Z.cl tb 52 [.pointer (some ⟨ab, 0, none⟩), .int .i32 r], Arena ab A] (.tuple #[]) [Z.cl tb 52 [.pointer (some ⟨ab, 0, none⟩), .int .i32 r], Arena ab (Ar.cut s t h A i lo)] := by
  induction h with
  | zero => intro _ w0 A i lo hA hi h0 h1; exact cut0_spec w0 tb ab r A s t i lo hA hi h0 h1
  | succ h ih => intro hh w0 A i lo hA hi h0 h1; exact cut1_spec w0 tb ab r A s t i lo hA hi h0 h hh h1 (ih (by omega))

end Go.Proofs.Ytggndcaehjdklaa
