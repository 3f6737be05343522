/- Segtree: the walk through a tree. -/
import Derived.Test.YtggndcaehjdklaaS6
import Derived.Test.YtggndcaehjdklaaZ7
namespace Go.Proofs.Ytggndcaehjdklaa
open Go Go.RowKit
set_option maxHeartbeats 4000000 in
set_option maxRecDepth 100000 in
theorem walk0_spec (w0 : World) (tb ab : Nat) (r : Int) (A : Ar) (l : Nat) (B : List (Int × Int) → Z.SP) (xs : List (Int × Int)) (hY : ∀ pre x suf, pre ++ x :: suf = xs → Z.YFn Try.prog w0 l [.int .u32 x.1, .int .i64 x.2] [B pre] [B (pre ++ [x])]) (i lo : Int) (pre suf : List (Int × Int)) (_hA : A.ok) (hi : 0 ≤ i ∧ i ≤ 4194304) (_h0 : 0 ≤ lo) (_h1 : lo + pw 0 ≤ 4294967296) (hx : pre ++ (Ar.walk 0 A i lo).1 ++ suf = xs) : Z.FnD Try.prog w0 32 [.pointer (some ⟨tb, 0, none⟩), .int .i32 i, .agg #[.int .u32 lo, .int .i64 0], .func (.yield l) #[] #[]] [Z.cl tb 52 [.pointer (some ⟨ab, 0, none⟩), .int .i32 r], Arena ab A, B pre] (.bool true) [Z.cl tb 52 [.pointer (some ⟨ab, 0, none⟩), .int .i32 r], Arena ab (Ar.walk 0 A i lo).2, B (pre ++ (Ar.walk 0 A i lo).1)] := by
  refine Z.Fn.fnD ?_
  refine Z.fn_enter (n := 56) Try.func32 rfl (by rfl) (by rfl) (fun Fr => ?_)
  refine Z.j_app (by repeat (first | exact Z.App.nil | apply Z.App.cons)) ?_
  refine Z.j_seq ?_
  refine Z.j_region ?_
  refine Z.s_box rfl (fun b6 => ?_)
  refine Z.s_val (Z.pv_assign rfl) ?_
  refine Z.j_nil ?_
  refine Z.j_then ?_
  refine Z.j_seq ?_
  refine Z.j_seq ?_
  refine Z.j_region ?_
  refine Z.s_val (Z.pv_move rfl) ?_
  refine Z.s_val (Z.pv_eql rfl rfl) ?_
  refine Z.s_val (Z.pv_move rfl) ?_
  refine Z.s_split 14 rfl (fun hg14 => ?_) (fun hg14 => ?_)
  · try (with_reducible first | replace hg14 := of_decide_eq_true hg14 | replace hg14 := of_decide_eq_false hg14 | replace hg14 := Z.nd_true hg14 | replace hg14 := Z.nd_false hg14 | replace hg14 := Z.nn_true hg14 | replace hg14 := Z.nn_false hg14 | replace hg14 := Z.nb_true hg14 | replace hg14 := Z.nb_false hg14)
    first
    | (exfalso; first | (cases hg14; done) | omega)
    | skip
      refine Z.s_skip ?_
      refine Z.s_skip ?_
      refine Z.s_skip ?_
      refine Z.s_skip ?_
      refine Z.s_skip ?_
      refine Z.s_skip ?_
      refine Z.s_val (Z.pv_pick rfl rfl) ?_
      refine Z.j_nil ?_
      refine Z.j_then ?_
      refine Z.j_cond rfl (fun hc21 => ?_) (fun hc21 => ?_)
      · try (with_reducible first | replace hc21 := of_decide_eq_true hc21 | replace hc21 := of_decide_eq_false hc21 | replace hc21 := Z.nd_true hc21 | replace hc21 := Z.nd_false hc21 | replace hc21 := Z.nn_true hc21 | replace hc21 := Z.nn_false hc21 | replace hc21 := Z.nb_true hc21 | replace hc21 := Z.nb_false hc21)
        first
        | (exfalso; first | (cases hc21; done) | omega)
        | skip
          refine Z.j_seq ?_
          refine Z.j_region ?_
          refine Z.s_val (Z.pv_assign rfl) ?_
          refine Z.j_nil ?_
          refine Z.j_then ?_
          refine Z.j_ret ?_
          refine Z.j_then_ret ?_
          refine Z.j_done_ret (Z.rv1 (Z.rv_tmp (t := 8) rfl)) ?_
          first | (rw [walk_z (by omega), List.append_nil]; exact Z.post_of ⟨rfl, rfl⟩ (by repeat (first | with_reducible exact Z.Takes.nil | (apply Z.Takes.cons; (repeat (first | with_reducible exact Z.Take.here | apply Z.Take.there))))) (by repeat (first | with_reducible exact Z.Drop.nil | apply Z.Drop.cons))) | (rw [walk_c (by omega), List.append_nil]; exact Z.post_of ⟨rfl, rfl⟩ (by repeat (first | with_reducible exact Z.Takes.nil | (apply Z.Takes.cons; (repeat (first | with_reducible exact Z.Take.here | apply Z.Take.there))))) (by repeat (first | with_reducible exact Z.Drop.nil | apply Z.Drop.cons))) | (rw [walk_l (by omega) (by omega)]; exact Z.post_of ⟨rfl, rfl⟩ (by repeat (first | with_reducible exact Z.Takes.nil | (apply Z.Takes.cons; (repeat (first | with_reducible exact Z.Take.here | apply Z.Take.there))))) (by repeat (first | with_reducible exact Z.Drop.nil | apply Z.Drop.cons)))
      · try (with_reducible first | replace hc21 := of_decide_eq_true hc21 | replace hc21 := of_decide_eq_false hc21 | replace hc21 := Z.nd_true hc21 | replace hc21 := Z.nd_false hc21 | replace hc21 := Z.nn_true hc21 | replace hc21 := Z.nn_false hc21 | replace hc21 := Z.nb_true hc21 | replace hc21 := Z.nb_false hc21)
        first
        | (exfalso; first | (cases hc21; done) | omega)
        | skip
          refine Z.j_skip ?_
          refine Z.j_then ?_
          refine Z.j_seq ?_
          refine Z.j_seq ?_
          refine Z.j_region ?_
          refine Z.s_val (Z.pv_fieldAddr (o' := 1) rfl Try.underlying61 rfl Try.sizeOf3 rfl) ?_
          refine Z.s_val (Z.pv_load1 rfl (by repeat (first | with_reducible exact Z.Take.here | apply Z.Take.there)) Try.isAgg3 (by rfl)) ?_
          refine Z.s_val (Z.pv_eql rfl rfl) ?_
          refine Z.j_nil ?_
          refine Z.j_then ?_
          refine Z.j_cond rfl (fun hc24 => ?_) (fun hc24 => ?_)
          · try (with_reducible first | replace hc24 := of_decide_eq_true hc24 | replace hc24 := of_decide_eq_false hc24 | replace hc24 := Z.nd_true hc24 | replace hc24 := Z.nd_false hc24 | replace hc24 := Z.nn_true hc24 | replace hc24 := Z.nn_false hc24 | replace hc24 := Z.nb_true hc24 | replace hc24 := Z.nb_false hc24)
            first
            | (exfalso; first | (cases hc24; done) | omega)
            | skip
              refine Z.j_seq ?_
              refine Z.j_draw (vals := [_, _, _, _, _, _, _, _]) 8 (by kernel_rfl) (by kernel_rfl) rfl (by rfl) (Z.heads_cons (Z.hq_val (Z.pv_move (by rfl))) (Z.heads_cons (Z.hq_val (Z.pv_fieldAddr (o' := 0) (by rfl) Try.underlying61 (by rfl) (by exact Try.sizeOf30) (by rfl))) (Z.heads_cons (Z.hq_val (Z.pv_load1 (by rfl) (by repeat (first | with_reducible exact Z.Take.here | apply Z.Take.there)) Try.isAgg30 (by rfl))) (Z.heads_cons (Z.hq_val (Z.pv_move (by rfl))) (Z.heads_cons (Z.hq_val (Z.pv_move (by rfl))) (Z.heads_cons (Z.hq_callD (by rfl) (by rfl) (by rfl) isFn25 (by repeat (first | with_reducible exact Z.Takes.nil | (apply Z.Takes.cons; (repeat (first | with_reducible exact Z.Take.here | apply Z.Take.there))))) (by repeat (first | with_reducible exact Z.Takes.nil | (apply Z.Takes.cons; (repeat (first | with_reducible exact Z.Take.here | apply Z.Take.there))))) (at_spec _ _ _ _ _ _ (by omega))) (Z.heads_cons (Z.hq_val (Z.pv_fieldA (by rfl) Try.underlying69 (by rfl) Try.isAgg41 (by exact Try.sizeOf41) (by rfl))) (Z.heads_cons (Z.hq_val (Z.pv_field1 (by rfl) Try.underlying41 (by rfl) Try.isAgg2 (by rfl))) Z.heads_nil)))))))) ?_
              refine Z.s_yield rfl rfl (by repeat (first | with_reducible exact Z.Takes.nil | (apply Z.Takes.cons; (repeat (first | with_reducible exact Z.Take.here | apply Z.Take.there))))) (by repeat (first | exact Z.App.nil | apply Z.App.cons)) (hY pre (lo, (A.get i).a.s) suf (by rw [walk_l (by omega) (by omega)] at hx; simpa using hx)) ?_
              refine Z.s_val (Z.pv_assign rfl) ?_
              refine Z.j_nil ?_
              refine Z.j_then ?_
              refine Z.j_ret ?_
              refine Z.j_then_ret ?_
              refine Z.j_done_ret (Z.rv1 (Z.rv_tmp (t := 8) rfl)) ?_
              first | (rw [walk_z (by omega), List.append_nil]; exact Z.post_of ⟨rfl, rfl⟩ (by repeat (first | with_reducible exact Z.Takes.nil | (apply Z.Takes.cons; (repeat (first | with_reducible exact Z.Take.here | apply Z.Take.there))))) (by repeat (first | with_reducible exact Z.Drop.nil | apply Z.Drop.cons))) | (rw [walk_c (by omega), List.append_nil]; exact Z.post_of ⟨rfl, rfl⟩ (by repeat (first | with_reducible exact Z.Takes.nil | (apply Z.Takes.cons; (repeat (first | with_reducible exact Z.Take.here | apply Z.Take.there))))) (by repeat (first | with_reducible exact Z.Drop.nil | apply Z.Drop.cons))) | (rw [walk_l (by omega) (by omega)]; exact Z.post_of ⟨rfl, rfl⟩ (by repeat (first | with_reducible exact Z.Takes.nil | (apply Z.Takes.cons; (repeat (first | with_reducible exact Z.Take.here | apply Z.Take.there))))) (by repeat (first | with_reducible exact Z.Drop.nil | apply Z.Drop.cons)))
          · exfalso; first | (cases hc24; done) | (simp at hc24; done) | (simp at hc24; omega)
  · try (with_reducible first | replace hg14 := of_decide_eq_true hg14 | replace hg14 := of_decide_eq_false hg14 | replace hg14 := Z.nd_true hg14 | replace hg14 := Z.nd_false hg14 | replace hg14 := Z.nn_true hg14 | replace hg14 := Z.nn_false hg14 | replace hg14 := Z.nb_true hg14 | replace hg14 := Z.nb_false hg14)
    first
    | (exfalso; first | (cases hg14; done) | omega)
    | skip
      refine Z.s_val (Z.pv_move rfl) ?_
      refine Z.s_val (Z.pv_move rfl) ?_
      refine Z.s_callD rfl rfl rfl isFn25 (by repeat (first | with_reducible exact Z.Takes.nil | (apply Z.Takes.cons; (repeat (first | with_reducible exact Z.Take.here | apply Z.Take.there))))) (by repeat (first | exact Z.App.nil | apply Z.App.cons)) (at_spec _ _ _ _ _ _ (by omega)) ?_
      refine Z.s_val (Z.pv_fieldA rfl Try.underlying69 rfl Try.isAgg41 Try.sizeOf41 rfl) ?_
      refine Z.s_val (Z.pv_field1 rfl Try.underlying41 rfl Try.isAgg3 rfl) ?_
      refine Z.s_val (Z.pv_eql rfl rfl) ?_
      refine Z.s_val (Z.pv_pick rfl rfl) ?_
      refine Z.j_nil ?_
      refine Z.j_then ?_
      refine Z.j_cond rfl (fun hc21 => ?_) (fun hc21 => ?_)
      · try (with_reducible first | replace hc21 := of_decide_eq_true hc21 | replace hc21 := of_decide_eq_false hc21 | replace hc21 := Z.nd_true hc21 | replace hc21 := Z.nd_false hc21 | replace hc21 := Z.nn_true hc21 | replace hc21 := Z.nn_false hc21 | replace hc21 := Z.nb_true hc21 | replace hc21 := Z.nb_false hc21)
        first
        | (exfalso; first | (cases hc21; done) | omega)
        | skip
          refine Z.j_seq ?_
          refine Z.j_region ?_
          refine Z.s_val (Z.pv_assign rfl) ?_
          refine Z.j_nil ?_
          refine Z.j_then ?_
          refine Z.j_ret ?_
          refine Z.j_then_ret ?_
          refine Z.j_done_ret (Z.rv1 (Z.rv_tmp (t := 8) rfl)) ?_
          first | (rw [walk_z (by omega), List.append_nil]; exact Z.post_of ⟨rfl, rfl⟩ (by repeat (first | with_reducible exact Z.Takes.nil | (apply Z.Takes.cons; (repeat (first | with_reducible exact Z.Take.here | apply Z.Take.there))))) (by repeat (first | with_reducible exact Z.Drop.nil | apply Z.Drop.cons))) | (rw [walk_c (by omega), List.append_nil]; exact Z.post_of ⟨rfl, rfl⟩ (by repeat (first | with_reducible exact Z.Takes.nil | (apply Z.Takes.cons; (repeat (first | with_reducible exact Z.Take.here | apply Z.Take.there))))) (by repeat (first | with_reducible exact Z.Drop.nil | apply Z.Drop.cons))) | (rw [walk_l (by omega) (by omega)]; exact Z.post_of ⟨rfl, rfl⟩ (by repeat (first | with_reducible exact Z.Takes.nil | (apply Z.Takes.cons; (repeat (first | with_reducible exact Z.Take.here | apply Z.Take.there))))) (by repeat (first | with_reducible exact Z.Drop.nil | apply Z.Drop.cons)))
      · try (with_reducible first | replace hc21 := of_decide_eq_true hc21 | replace hc21 := of_decide_eq_false hc21 | replace hc21 := Z.nd_true hc21 | replace hc21 := Z.nd_false hc21 | replace hc21 := Z.nn_true hc21 | replace hc21 := Z.nn_false hc21 | replace hc21 := Z.nb_true hc21 | replace hc21 := Z.nb_false hc21)
        first
        | (exfalso; first | (cases hc21; done) | omega)
        | skip
          refine Z.j_skip ?_
          refine Z.j_then ?_
          refine Z.j_seq ?_
          refine Z.j_seq ?_
          refine Z.j_region ?_
          refine Z.s_val (Z.pv_fieldAddr (o' := 1) rfl Try.underlying61 rfl Try.sizeOf3 rfl) ?_
          refine Z.s_val (Z.pv_load1 rfl (by repeat (first | with_reducible exact Z.Take.here | apply Z.Take.there)) Try.isAgg3 (by rfl)) ?_
          refine Z.s_val (Z.pv_eql rfl rfl) ?_
          refine Z.j_nil ?_
          refine Z.j_then ?_
          refine Z.j_cond rfl (fun hc24 => ?_) (fun hc24 => ?_)
          · try (with_reducible first | replace hc24 := of_decide_eq_true hc24 | replace hc24 := of_decide_eq_false hc24 | replace hc24 := Z.nd_true hc24 | replace hc24 := Z.nd_false hc24 | replace hc24 := Z.nn_true hc24 | replace hc24 := Z.nn_false hc24 | replace hc24 := Z.nb_true hc24 | replace hc24 := Z.nb_false hc24)
            first
            | (exfalso; first | (cases hc24; done) | omega)
            | skip
              refine Z.j_seq ?_
              refine Z.j_draw (vals := [_, _, _, _, _, _, _, _]) 8 (by kernel_rfl) (by kernel_rfl) rfl (by rfl) (Z.heads_cons (Z.hq_val (Z.pv_move (by rfl))) (Z.heads_cons (Z.hq_val (Z.pv_fieldAddr (o' := 0) (by rfl) Try.underlying61 (by rfl) (by exact Try.sizeOf30) (by rfl))) (Z.heads_cons (Z.hq_val (Z.pv_load1 (by rfl) (by repeat (first | with_reducible exact Z.Take.here | apply Z.Take.there)) Try.isAgg30 (by rfl))) (Z.heads_cons (Z.hq_val (Z.pv_move (by rfl))) (Z.heads_cons (Z.hq_val (Z.pv_move (by rfl))) (Z.heads_cons (Z.hq_callD (by rfl) (by rfl) (by rfl) isFn25 (by repeat (first | with_reducible exact Z.Takes.nil | (apply Z.Takes.cons; (repeat (first | with_reducible exact Z.Take.here | apply Z.Take.there))))) (by repeat (first | with_reducible exact Z.Takes.nil | (apply Z.Takes.cons; (repeat (first | with_reducible exact Z.Take.here | apply Z.Take.there))))) (at_spec _ _ _ _ _ _ (by omega))) (Z.heads_cons (Z.hq_val (Z.pv_fieldA (by rfl) Try.underlying69 (by rfl) Try.isAgg41 (by exact Try.sizeOf41) (by rfl))) (Z.heads_cons (Z.hq_val (Z.pv_field1 (by rfl) Try.underlying41 (by rfl) Try.isAgg2 (by rfl))) Z.heads_nil)))))))) ?_
              refine Z.s_yield rfl rfl (by repeat (first | with_reducible exact Z.Takes.nil | (apply Z.Takes.cons; (repeat (first | with_reducible exact Z.Take.here | apply Z.Take.there))))) (by repeat (first | exact Z.App.nil | apply Z.App.cons)) (hY pre (lo, (A.get i).a.s) suf (by rw [walk_l (by omega) (by omega)] at hx; simpa using hx)) ?_
              refine Z.s_val (Z.pv_assign rfl) ?_
              refine Z.j_nil ?_
              refine Z.j_then ?_
              refine Z.j_ret ?_
              refine Z.j_then_ret ?_
              refine Z.j_done_ret (Z.rv1 (Z.rv_tmp (t := 8) rfl)) ?_
              first | (rw [walk_z (by omega), List.append_nil]; exact Z.post_of ⟨rfl, rfl⟩ (by repeat (first | with_reducible exact Z.Takes.nil | (apply Z.Takes.cons; (repeat (first | with_reducible exact Z.Take.here | apply Z.Take.there))))) (by repeat (first | with_reducible exact Z.Drop.nil | apply Z.Drop.cons))) | (rw [walk_c (by omega), List.append_nil]; exact Z.post_of ⟨rfl, rfl⟩ (by repeat (first | with_reducible exact Z.Takes.nil | (apply Z.Takes.cons; (repeat (first | with_reducible exact Z.Take.here | apply Z.Take.there))))) (by repeat (first | with_reducible exact Z.Drop.nil | apply Z.Drop.cons))) | (rw [walk_l (by omega) (by omega)]; exact Z.post_of ⟨rfl, rfl⟩ (by repeat (first | with_reducible exact Z.Takes.nil | (apply Z.Takes.cons; (repeat (first | with_reducible exact Z.Take.here | apply Z.Take.there))))) (by repeat (first | with_reducible exact Z.Drop.nil | apply Z.Drop.cons)))
          · exfalso; first | (cases hc24; done) | (simp at hc24; done) | (simp at hc24; omega)

set_option maxHeartbeats 4000000 in
set_option maxRecDepth 100000 in
theorem walk1_spec (w0 : World) (tb ab : Nat) (r : Int) (A : Ar) (l : Nat) (B : List (Int × Int) → Z.SP) (xs : List (Int × Int)) (_hY : ∀ pre x suf, pre ++ x :: suf = xs → Z.YFn Try.prog w0 l [.int .u32 x.1, .int .i64 x.2] [B pre] [B (pre ++ [x])]) (i lo : Int) (pre suf : List (Int × Int)) (hA : A.ok) (hi : 0 ≤ i ∧ i ≤ 4194304) (h0 : 0 ≤ lo) (h : Nat) (hh : h + 1 ≤ 32) (h1 : lo + pw (h + 1) ≤ 4294967296) (hx : pre ++ (Ar.walk (h + 1) A i lo).1 ++ suf = xs) (ih : ∀ (A : Ar) (i lo : Int) (pre suf : List (Int × Int)), A.ok → (0 ≤ i ∧ i ≤ 4194304) → 0 ≤ lo → lo + pw h ≤ 4294967296 → pre ++ (Ar.walk h A i lo).1 ++ suf = xs → Z.FnD Try.prog w0 32 [.pointer (some ⟨tb, 0, none⟩), .int .i32 i, .agg #[.int .u32 lo, .int .i64 (h : Nat)], .func (.yield l) #[] #[]] [Z.cl tb 52 [.pointer (some ⟨ab, 0, none⟩), .int .i32 r], Arena ab A, B pre] (.bool true) [Z.cl tb 52 [.pointer (some ⟨ab, 0, none⟩), .int .i32 r], Arena ab (Ar.walk h A i lo).2, B (pre ++ (Ar.walk h A i lo).1)]) : Z.FnD Try.prog w0 32 [.pointer (some ⟨tb, 0, none⟩), .int .i32 i, .agg #[.int .u32 lo, .int .i64 ((h + 1) : Nat)], .func (.yield l) #[] #[]] [Z.cl tb 52 [.pointer (some ⟨ab, 0, none⟩), .int .i32 r], Arena ab A, B pre] (.bool true) [Z.cl tb 52 [.pointer (some ⟨ab, 0, none⟩), .int .i32 r], Arena ab (Ar.walk (h + 1) A i lo).2, B (pre ++ (Ar.walk (h + 1) A i lo).1)] := by
  have hP := pushed_ok (i := i) hA
  obtain ⟨⟨hl1, hl2⟩, hl3, hl4⟩ := node_ok (i := i) hA
  have hw := pw_succ h
  have hw0 := pw_pos h
  have hN := walk_ok h _ (A.node i).l lo hP
  refine Z.Fn.fnD ?_
  refine Z.fn_enter (n := 56) Try.func32 rfl (by rfl) (by rfl) (fun Fr => ?_)
  refine Z.j_app (by repeat (first | exact Z.App.nil | apply Z.App.cons)) ?_
  refine Z.j_seq ?_
  refine Z.j_region ?_
  refine Z.s_box rfl (fun b6 => ?_)
  refine Z.s_val (Z.pv_assign rfl) ?_
  refine Z.j_nil ?_
  refine Z.j_then ?_
  refine Z.j_seq ?_
  refine Z.j_seq ?_
  refine Z.j_region ?_
  refine Z.s_val (Z.pv_move rfl) ?_
  refine Z.s_val (Z.pv_eql rfl rfl) ?_
  refine Z.s_val (Z.pv_move rfl) ?_
  refine Z.s_split 14 rfl (fun hg14 => ?_) (fun hg14 => ?_)
  · try (with_reducible first | replace hg14 := of_decide_eq_true hg14 | replace hg14 := of_decide_eq_false hg14 | replace hg14 := Z.nd_true hg14 | replace hg14 := Z.nd_false hg14 | replace hg14 := Z.nn_true hg14 | replace hg14 := Z.nn_false hg14 | replace hg14 := Z.nb_true hg14 | replace hg14 := Z.nb_false hg14)
    first
    | (exfalso; first | (cases hg14; done) | omega)
    | skip
      refine Z.s_skip ?_
      refine Z.s_skip ?_
      refine Z.s_skip ?_
      refine Z.s_skip ?_
      refine Z.s_skip ?_
      refine Z.s_skip ?_
      refine Z.s_val (Z.pv_pick rfl rfl) ?_
      refine Z.j_nil ?_
      refine Z.j_then ?_
      refine Z.j_cond rfl (fun hc21 => ?_) (fun hc21 => ?_)
      · try (with_reducible first | replace hc21 := of_decide_eq_true hc21 | replace hc21 := of_decide_eq_false hc21 | replace hc21 := Z.nd_true hc21 | replace hc21 := Z.nd_false hc21 | replace hc21 := Z.nn_true hc21 | replace hc21 := Z.nn_false hc21 | replace hc21 := Z.nb_true hc21 | replace hc21 := Z.nb_false hc21)
        first
        | (exfalso; first | (cases hc21; done) | omega)
        | skip
          refine Z.j_seq ?_
          refine Z.j_region ?_
          refine Z.s_val (Z.pv_assign rfl) ?_
          refine Z.j_nil ?_
          refine Z.j_then ?_
          refine Z.j_ret ?_
          refine Z.j_then_ret ?_
          refine Z.j_done_ret (Z.rv1 (Z.rv_tmp (t := 8) rfl)) ?_
          first | (rw [walk_z (by omega), List.append_nil]; exact Z.post_of ⟨rfl, rfl⟩ (by repeat (first | with_reducible exact Z.Takes.nil | (apply Z.Takes.cons; (repeat (first | with_reducible exact Z.Take.here | apply Z.Take.there))))) (by repeat (first | with_reducible exact Z.Drop.nil | apply Z.Drop.cons))) | (rw [walk_c (by omega), List.append_nil]; exact Z.post_of ⟨rfl, rfl⟩ (by repeat (first | with_reducible exact Z.Takes.nil | (apply Z.Takes.cons; (repeat (first | with_reducible exact Z.Take.here | apply Z.Take.there))))) (by repeat (first | with_reducible exact Z.Drop.nil | apply Z.Drop.cons))) | (rw [walk_s (by omega) (by omega), ← List.append_assoc]; exact Z.post_of ⟨rfl, rfl⟩ (by repeat (first | with_reducible exact Z.Takes.nil | (apply Z.Takes.cons; (repeat (first | with_reducible exact Z.Take.here | apply Z.Take.there))))) (by repeat (first | with_reducible exact Z.Drop.nil | apply Z.Drop.cons)))
      · try (with_reducible first | replace hc21 := of_decide_eq_true hc21 | replace hc21 := of_decide_eq_false hc21 | replace hc21 := Z.nd_true hc21 | replace hc21 := Z.nd_false hc21 | replace hc21 := Z.nn_true hc21 | replace hc21 := Z.nn_false hc21 | replace hc21 := Z.nb_true hc21 | replace hc21 := Z.nb_false hc21)
        first
        | (exfalso; first | (cases hc21; done) | omega)
        | skip
          refine Z.j_skip ?_
          refine Z.j_then ?_
          refine Z.j_seq ?_
          refine Z.j_seq ?_
          refine Z.j_region ?_
          refine Z.s_val (Z.pv_fieldAddr (o' := 1) rfl Try.underlying61 rfl Try.sizeOf3 rfl) ?_
          refine Z.s_val (Z.pv_load1 rfl (by repeat (first | with_reducible exact Z.Take.here | apply Z.Take.there)) Try.isAgg3 (by rfl)) ?_
          refine Z.s_val (Z.pv_eql rfl rfl) ?_
          refine Z.j_nil ?_
          refine Z.j_then ?_
          refine Z.j_cond rfl (fun hc24 => ?_) (fun hc24 => ?_)
          · exfalso; first | (cases hc24; done) | (simp at hc24; done) | (simp at hc24; omega)
          · try (with_reducible first | replace hc24 := of_decide_eq_true hc24 | replace hc24 := of_decide_eq_false hc24 | replace hc24 := Z.nd_true hc24 | replace hc24 := Z.nd_false hc24 | replace hc24 := Z.nn_true hc24 | replace hc24 := Z.nn_false hc24 | replace hc24 := Z.nb_true hc24 | replace hc24 := Z.nb_false hc24)
            first
            | (exfalso; first | (cases hc24; done) | omega)
            | skip
              refine Z.j_skip ?_
              refine Z.j_then ?_
              refine Z.j_seq ?_
              refine Z.j_region ?_
              refine Z.s_val (Z.pv_move rfl) ?_
              refine Z.s_val (Z.pv_move rfl) ?_
              refine Z.s_callD rfl rfl rfl isFn27 (by repeat (first | with_reducible exact Z.Takes.nil | (apply Z.Takes.cons; (repeat (first | with_reducible exact Z.Take.here | apply Z.Take.there))))) (by repeat (first | exact Z.App.nil | apply Z.App.cons)) (push_spec _ _ _ _ _ _ (by assumption) (by omega)) ?_
              refine Z.s_alloc Try.zeroValue69 (fun b9 => ?_)
              refine Z.s_storeA rfl rfl Try.sizeOf69 rfl (by repeat (first | with_reducible exact Z.Upd.here | apply Z.Upd.there)) (by rfl) ?_
              refine Z.j_nil ?_
              refine Z.j_then ?_
              refine Z.j_seq ?_
              refine Z.j_region ?_
              refine Z.s_val (Z.pv_loadA rfl (by repeat (first | with_reducible exact Z.Take.here | apply Z.Take.there)) Try.isAgg61 Try.sizeOf61 (by rfl)) ?_
              refine Z.s_callD rfl rfl rfl isFn35 (by repeat (first | with_reducible exact Z.Takes.nil | (apply Z.Takes.cons; (repeat (first | with_reducible exact Z.Take.here | apply Z.Take.there))))) (by repeat (first | exact Z.App.nil | apply Z.App.cons)) (halves_spec _ _ h (by omega) (by omega) (by omega)) ?_
              refine Z.s_val (Z.pv_move rfl) ?_
              refine Z.s_val (Z.pv_extract rfl rfl) ?_
              refine Z.s_val (Z.pv_extract rfl rfl) ?_
              refine Z.s_alloc Try.zeroValue61 (fun b10 => ?_)
              refine Z.s_alloc Try.zeroValue61 (fun b11 => ?_)
              refine Z.s_storeA rfl rfl Try.sizeOf61 rfl (by repeat (first | with_reducible exact Z.Upd.here | apply Z.Upd.there)) (by rfl) ?_
              refine Z.s_storeA rfl rfl Try.sizeOf61 rfl (by repeat (first | with_reducible exact Z.Upd.here | apply Z.Upd.there)) (by rfl) ?_
              refine Z.j_nil ?_
              refine Z.j_then ?_
              refine Z.j_seq ?_
              refine Z.j_region ?_
              refine Z.s_val (Z.pv_move rfl) ?_
              refine Z.s_val (Z.pv_fieldAddr (o' := 0) rfl Try.underlying69 rfl Try.sizeOf21 rfl) ?_
              refine Z.s_val (Z.pv_load1 rfl (by repeat (first | with_reducible exact Z.Take.here | apply Z.Take.there)) Try.isAgg21 (by rfl)) ?_
              refine Z.s_val (Z.pv_loadA rfl (by repeat (first | with_reducible exact Z.Take.here | apply Z.Take.there)) Try.isAgg61 Try.sizeOf61 (by rfl)) ?_
              refine Z.s_val (Z.pv_move rfl) ?_
              refine Z.s_callD rfl rfl rfl isFn32 (by repeat (first | with_reducible exact Z.Takes.nil | (apply Z.Takes.cons; (repeat (first | with_reducible exact Z.Take.here | apply Z.Take.there))))) (by repeat (first | exact Z.App.nil | apply Z.App.cons)) (ih (A.pushed i) (A.node i).l lo pre ((((A.pushed i).walk h (A.node i).l lo).2.walk h (A.node i).r (lo + pw h)).1 ++ suf) hP (by omega) (by omega) (by omega) (by rw [← hx, walk_s (by omega) (by omega)]; simp)) ?_
              refine Z.s_val (Z.pv_move rfl) ?_
              refine Z.s_split 48 rfl (fun hg48 => ?_) (fun hg48 => ?_)
              · try (with_reducible first | replace hg48 := of_decide_eq_true hg48 | replace hg48 := of_decide_eq_false hg48 | replace hg48 := Z.nd_true hg48 | replace hg48 := Z.nd_false hg48 | replace hg48 := Z.nn_true hg48 | replace hg48 := Z.nn_false hg48 | replace hg48 := Z.nb_true hg48 | replace hg48 := Z.nb_false hg48)
                first
                | (exfalso; first | (cases hg48; done) | omega)
                | skip
                  refine Z.s_val (Z.pv_move rfl) ?_
                  refine Z.s_val (Z.pv_fieldAddr (o' := 1) rfl Try.underlying69 rfl Try.sizeOf21 rfl) ?_
                  refine Z.s_val (Z.pv_load1 rfl (by repeat (first | with_reducible exact Z.Take.here | apply Z.Take.there)) Try.isAgg21 (by rfl)) ?_
                  refine Z.s_val (Z.pv_loadA rfl (by repeat (first | with_reducible exact Z.Take.here | apply Z.Take.there)) Try.isAgg61 Try.sizeOf61 (by rfl)) ?_
                  refine Z.s_val (Z.pv_move rfl) ?_
                  refine Z.s_callD rfl rfl rfl isFn32 (by repeat (first | with_reducible exact Z.Takes.nil | (apply Z.Takes.cons; (repeat (first | with_reducible exact Z.Take.here | apply Z.Take.there))))) (by repeat (first | exact Z.App.nil | apply Z.App.cons)) (ih ((A.pushed i).walk h (A.node i).l lo).2 (A.node i).r (lo + pw h) (pre ++ ((A.pushed i).walk h (A.node i).l lo).1) suf hN (by omega) (by omega) (by omega) (by rw [← hx, walk_s (by omega) (by omega)]; simp)) ?_
                  refine Z.s_val (Z.pv_pick rfl rfl) ?_
                  refine Z.s_val (Z.pv_assign rfl) ?_
                  refine Z.j_nil ?_
                  refine Z.j_then ?_
                  refine Z.j_ret ?_
                  refine Z.j_done_ret (Z.rv1 (Z.rv_tmp (t := 8) rfl)) ?_
                  first | (rw [walk_z (by omega), List.append_nil]; exact Z.post_of ⟨rfl, rfl⟩ (by repeat (first | with_reducible exact Z.Takes.nil | (apply Z.Takes.cons; (repeat (first | with_reducible exact Z.Take.here | apply Z.Take.there))))) (by repeat (first | with_reducible exact Z.Drop.nil | apply Z.Drop.cons))) | (rw [walk_c (by omega), List.append_nil]; exact Z.post_of ⟨rfl, rfl⟩ (by repeat (first | with_reducible exact Z.Takes.nil | (apply Z.Takes.cons; (repeat (first | with_reducible exact Z.Take.here | apply Z.Take.there))))) (by repeat (first | with_reducible exact Z.Drop.nil | apply Z.Drop.cons))) | (rw [walk_s (by omega) (by omega), ← List.append_assoc]; exact Z.post_of ⟨rfl, rfl⟩ (by repeat (first | with_reducible exact Z.Takes.nil | (apply Z.Takes.cons; (repeat (first | with_reducible exact Z.Take.here | apply Z.Take.there))))) (by repeat (first | with_reducible exact Z.Drop.nil | apply Z.Drop.cons)))
              · try (with_reducible first | replace hg48 := of_decide_eq_true hg48 | replace hg48 := of_decide_eq_false hg48 | replace hg48 := Z.nd_true hg48 | replace hg48 := Z.nd_false hg48 | replace hg48 := Z.nn_true hg48 | replace hg48 := Z.nn_false hg48 | replace hg48 := Z.nb_true hg48 | replace hg48 := Z.nb_false hg48)
                first
                | (exfalso; first | (cases hg48; done) | omega)
                | skip
                  refine Z.s_skip ?_
                  refine Z.s_skip ?_
                  refine Z.s_skip ?_
                  refine Z.s_skip ?_
                  refine Z.s_skip ?_
                  refine Z.s_skip ?_
                  refine Z.s_val (Z.pv_pick rfl rfl) ?_
                  refine Z.s_val (Z.pv_assign rfl) ?_
                  refine Z.j_nil ?_
                  refine Z.j_then ?_
                  refine Z.j_ret ?_
                  refine Z.j_done_ret (Z.rv1 (Z.rv_tmp (t := 8) rfl)) ?_
                  first | (rw [walk_z (by omega), List.append_nil]; exact Z.post_of ⟨rfl, rfl⟩ (by repeat (first | with_reducible exact Z.Takes.nil | (apply Z.Takes.cons; (repeat (first | with_reducible exact Z.Take.here | apply Z.Take.there))))) (by repeat (first | with_reducible exact Z.Drop.nil | apply Z.Drop.cons))) | (rw [walk_c (by omega), List.append_nil]; exact Z.post_of ⟨rfl, rfl⟩ (by repeat (first | with_reducible exact Z.Takes.nil | (apply Z.Takes.cons; (repeat (first | with_reducible exact Z.Take.here | apply Z.Take.there))))) (by repeat (first | with_reducible exact Z.Drop.nil | apply Z.Drop.cons))) | (rw [walk_s (by omega) (by omega), ← List.append_assoc]; exact Z.post_of ⟨rfl, rfl⟩ (by repeat (first | with_reducible exact Z.Takes.nil | (apply Z.Takes.cons; (repeat (first | with_reducible exact Z.Take.here | apply Z.Take.there))))) (by repeat (first | with_reducible exact Z.Drop.nil | apply Z.Drop.cons)))
  · try (with_reducible first | replace hg14 := of_decide_eq_true hg14 | replace hg14 := of_decide_eq_false hg14 | replace hg14 := Z.nd_true hg14 | replace hg14 := Z.nd_false hg14 | replace hg14 := Z.nn_true hg14 | replace hg14 := Z.nn_false hg14 | replace hg14 := Z.nb_true hg14 | replace hg14 := Z.nb_false hg14)
    first
    | (exfalso; first | (cases hg14; done) | omega)
    | skip
      refine Z.s_val (Z.pv_move rfl) ?_
      refine Z.s_val (Z.pv_move rfl) ?_
      refine Z.s_callD rfl rfl rfl isFn25 (by repeat (first | with_reducible exact Z.Takes.nil | (apply Z.Takes.cons; (repeat (first | with_reducible exact Z.Take.here | apply Z.Take.there))))) (by repeat (first | exact Z.App.nil | apply Z.App.cons)) (at_spec _ _ _ _ _ _ (by omega)) ?_
      refine Z.s_val (Z.pv_fieldA rfl Try.underlying69 rfl Try.isAgg41 Try.sizeOf41 rfl) ?_
      refine Z.s_val (Z.pv_field1 rfl Try.underlying41 rfl Try.isAgg3 rfl) ?_
      refine Z.s_val (Z.pv_eql rfl rfl) ?_
      refine Z.s_val (Z.pv_pick rfl rfl) ?_
      refine Z.j_nil ?_
      refine Z.j_then ?_
      refine Z.j_cond rfl (fun hc21 => ?_) (fun hc21 => ?_)
      · try (with_reducible first | replace hc21 := of_decide_eq_true hc21 | replace hc21 := of_decide_eq_false hc21 | replace hc21 := Z.nd_true hc21 | replace hc21 := Z.nd_false hc21 | replace hc21 := Z.nn_true hc21 | replace hc21 := Z.nn_false hc21 | replace hc21 := Z.nb_true hc21 | replace hc21 := Z.nb_false hc21)
        first
        | (exfalso; first | (cases hc21; done) | omega)
        | skip
          refine Z.j_seq ?_
          refine Z.j_region ?_
          refine Z.s_val (Z.pv_assign rfl) ?_
          refine Z.j_nil ?_
          refine Z.j_then ?_
          refine Z.j_ret ?_
          refine Z.j_then_ret ?_
          refine Z.j_done_ret (Z.rv1 (Z.rv_tmp (t := 8) rfl)) ?_
          first | (rw [walk_z (by omega), List.append_nil]; exact Z.post_of ⟨rfl, rfl⟩ (by repeat (first | with_reducible exact Z.Takes.nil | (apply Z.Takes.cons; (repeat (first | with_reducible exact Z.Take.here | apply Z.Take.there))))) (by repeat (first | with_reducible exact Z.Drop.nil | apply Z.Drop.cons))) | (rw [walk_c (by omega), List.append_nil]; exact Z.post_of ⟨rfl, rfl⟩ (by repeat (first | with_reducible exact Z.Takes.nil | (apply Z.Takes.cons; (repeat (first | with_reducible exact Z.Take.here | apply Z.Take.there))))) (by repeat (first | with_reducible exact Z.Drop.nil | apply Z.Drop.cons))) | (rw [walk_s (by omega) (by omega), ← List.append_assoc]; exact Z.post_of ⟨rfl, rfl⟩ (by repeat (first | with_reducible exact Z.Takes.nil | (apply Z.Takes.cons; (repeat (first | with_reducible exact Z.Take.here | apply Z.Take.there))))) (by repeat (first | with_reducible exact Z.Drop.nil | apply Z.Drop.cons)))
      · try (with_reducible first | replace hc21 := of_decide_eq_true hc21 | replace hc21 := of_decide_eq_false hc21 | replace hc21 := Z.nd_true hc21 | replace hc21 := Z.nd_false hc21 | replace hc21 := Z.nn_true hc21 | replace hc21 := Z.nn_false hc21 | replace hc21 := Z.nb_true hc21 | replace hc21 := Z.nb_false hc21)
        first
        | (exfalso; first | (cases hc21; done) | omega)
        | skip
          refine Z.j_skip ?_
          refine Z.j_then ?_
          refine Z.j_seq ?_
          refine Z.j_seq ?_
          refine Z.j_region ?_
          refine Z.s_val (Z.pv_fieldAddr (o' := 1) rfl Try.underlying61 rfl Try.sizeOf3 rfl) ?_
          refine Z.s_val (Z.pv_load1 rfl (by repeat (first | with_reducible exact Z.Take.here | apply Z.Take.there)) Try.isAgg3 (by rfl)) ?_
          refine Z.s_val (Z.pv_eql rfl rfl) ?_
          refine Z.j_nil ?_
          refine Z.j_then ?_
          refine Z.j_cond rfl (fun hc24 => ?_) (fun hc24 => ?_)
          · exfalso; first | (cases hc24; done) | (simp at hc24; done) | (simp at hc24; omega)
          · try (with_reducible first | replace hc24 := of_decide_eq_true hc24 | replace hc24 := of_decide_eq_false hc24 | replace hc24 := Z.nd_true hc24 | replace hc24 := Z.nd_false hc24 | replace hc24 := Z.nn_true hc24 | replace hc24 := Z.nn_false hc24 | replace hc24 := Z.nb_true hc24 | replace hc24 := Z.nb_false hc24)
            first
            | (exfalso; first | (cases hc24; done) | omega)
            | skip
              refine Z.j_skip ?_
              refine Z.j_then ?_
              refine Z.j_seq ?_
              refine Z.j_region ?_
              refine Z.s_val (Z.pv_move rfl) ?_
              refine Z.s_val (Z.pv_move rfl) ?_
              refine Z.s_callD rfl rfl rfl isFn27 (by repeat (first | with_reducible exact Z.Takes.nil | (apply Z.Takes.cons; (repeat (first | with_reducible exact Z.Take.here | apply Z.Take.there))))) (by repeat (first | exact Z.App.nil | apply Z.App.cons)) (push_spec _ _ _ _ _ _ (by assumption) (by omega)) ?_
              refine Z.s_alloc Try.zeroValue69 (fun b9 => ?_)
              refine Z.s_storeA rfl rfl Try.sizeOf69 rfl (by repeat (first | with_reducible exact Z.Upd.here | apply Z.Upd.there)) (by rfl) ?_
              refine Z.j_nil ?_
              refine Z.j_then ?_
              refine Z.j_seq ?_
              refine Z.j_region ?_
              refine Z.s_val (Z.pv_loadA rfl (by repeat (first | with_reducible exact Z.Take.here | apply Z.Take.there)) Try.isAgg61 Try.sizeOf61 (by rfl)) ?_
              refine Z.s_callD rfl rfl rfl isFn35 (by repeat (first | with_reducible exact Z.Takes.nil | (apply Z.Takes.cons; (repeat (first | with_reducible exact Z.Take.here | apply Z.Take.there))))) (by repeat (first | exact Z.App.nil | apply Z.App.cons)) (halves_spec _ _ h (by omega) (by omega) (by omega)) ?_
              refine Z.s_val (Z.pv_move rfl) ?_
              refine Z.s_val (Z.pv_extract rfl rfl) ?_
              refine Z.s_val (Z.pv_extract rfl rfl) ?_
              refine Z.s_alloc Try.zeroValue61 (fun b10 => ?_)
              refine Z.s_alloc Try.zeroValue61 (fun b11 => ?_)
              refine Z.s_storeA rfl rfl Try.sizeOf61 rfl (by repeat (first | with_reducible exact Z.Upd.here | apply Z.Upd.there)) (by rfl) ?_
              refine Z.s_storeA rfl rfl Try.sizeOf61 rfl (by repeat (first | with_reducible exact Z.Upd.here | apply Z.Upd.there)) (by rfl) ?_
              refine Z.j_nil ?_
              refine Z.j_then ?_
              refine Z.j_seq ?_
              refine Z.j_region ?_
              refine Z.s_val (Z.pv_move rfl) ?_
              refine Z.s_val (Z.pv_fieldAddr (o' := 0) rfl Try.underlying69 rfl Try.sizeOf21 rfl) ?_
              refine Z.s_val (Z.pv_load1 rfl (by repeat (first | with_reducible exact Z.Take.here | apply Z.Take.there)) Try.isAgg21 (by rfl)) ?_
              refine Z.s_val (Z.pv_loadA rfl (by repeat (first | with_reducible exact Z.Take.here | apply Z.Take.there)) Try.isAgg61 Try.sizeOf61 (by rfl)) ?_
              refine Z.s_val (Z.pv_move rfl) ?_
              refine Z.s_callD rfl rfl rfl isFn32 (by repeat (first | with_reducible exact Z.Takes.nil | (apply Z.Takes.cons; (repeat (first | with_reducible exact Z.Take.here | apply Z.Take.there))))) (by repeat (first | exact Z.App.nil | apply Z.App.cons)) (ih (A.pushed i) (A.node i).l lo pre ((((A.pushed i).walk h (A.node i).l lo).2.walk h (A.node i).r (lo + pw h)).1 ++ suf) hP (by omega) (by omega) (by omega) (by rw [← hx, walk_s (by omega) (by omega)]; simp)) ?_
              refine Z.s_val (Z.pv_move rfl) ?_
              refine Z.s_split 48 rfl (fun hg48 => ?_) (fun hg48 => ?_)
              · try (with_reducible first | replace hg48 := of_decide_eq_true hg48 | replace hg48 := of_decide_eq_false hg48 | replace hg48 := Z.nd_true hg48 | replace hg48 := Z.nd_false hg48 | replace hg48 := Z.nn_true hg48 | replace hg48 := Z.nn_false hg48 | replace hg48 := Z.nb_true hg48 | replace hg48 := Z.nb_false hg48)
                first
                | (exfalso; first | (cases hg48; done) | omega)
                | skip
                  refine Z.s_val (Z.pv_move rfl) ?_
                  refine Z.s_val (Z.pv_fieldAddr (o' := 1) rfl Try.underlying69 rfl Try.sizeOf21 rfl) ?_
                  refine Z.s_val (Z.pv_load1 rfl (by repeat (first | with_reducible exact Z.Take.here | apply Z.Take.there)) Try.isAgg21 (by rfl)) ?_
                  refine Z.s_val (Z.pv_loadA rfl (by repeat (first | with_reducible exact Z.Take.here | apply Z.Take.there)) Try.isAgg61 Try.sizeOf61 (by rfl)) ?_
                  refine Z.s_val (Z.pv_move rfl) ?_
                  refine Z.s_callD rfl rfl rfl isFn32 (by repeat (first | with_reducible exact Z.Takes.nil | (apply Z.Takes.cons; (repeat (first | with_reducible exact Z.Take.here | apply Z.Take.there))))) (by repeat (first | exact Z.App.nil | apply Z.App.cons)) (ih ((A.pushed i).walk h (A.node i).l lo).2 (A.node i).r (lo + pw h) (pre ++ ((A.pushed i).walk h (A.node i).l lo).1) suf hN (by omega) (by omega) (by omega) (by rw [← hx, walk_s (by omega) (by omega)]; simp)) ?_
                  refine Z.s_val (Z.pv_pick rfl rfl) ?_
                  refine Z.s_val (Z.pv_assign rfl) ?_
                  refine Z.j_nil ?_
                  refine Z.j_then ?_
                  refine Z.j_ret ?_
                  refine Z.j_done_ret (Z.rv1 (Z.rv_tmp (t := 8) rfl)) ?_
                  first | (rw [walk_z (by omega), List.append_nil]; exact Z.post_of ⟨rfl, rfl⟩ (by repeat (first | with_reducible exact Z.Takes.nil | (apply Z.Takes.cons; (repeat (first | with_reducible exact Z.Take.here | apply Z.Take.there))))) (by repeat (first | with_reducible exact Z.Drop.nil | apply Z.Drop.cons))) | (rw [walk_c (by omega), List.append_nil]; exact Z.post_of ⟨rfl, rfl⟩ (by repeat (first | with_reducible exact Z.Takes.nil | (apply Z.Takes.cons; (repeat (first | with_reducible exact Z.Take.here | apply Z.Take.there))))) (by repeat (first | with_reducible exact Z.Drop.nil | apply Z.Drop.cons))) | (rw [walk_s (by omega) (by omega), ← List.append_assoc]; exact Z.post_of ⟨rfl, rfl⟩ (by repeat (first | with_reducible exact Z.Takes.nil | (apply Z.Takes.cons; (repeat (first | with_reducible exact Z.Take.here | apply Z.Take.there))))) (by repeat (first | with_reducible exact Z.Drop.nil | apply Z.Drop.cons)))
              · try (with_reducible first | replace hg48 := of_decide_eq_true hg48 | replace hg48 := of_decide_eq_false hg48 | replace hg48 := Z.nd_true hg48 | replace hg48 := Z.nd_false hg48 | replace hg48 := Z.nn_true hg48 | replace hg48 := Z.nn_false hg48 | replace hg48 := Z.nb_true hg48 | replace hg48 := Z.nb_false hg48)
                first
                | (exfalso; first | (cases hg48; done) | omega)
                | skip
                  refine Z.s_skip ?_
                  refine Z.s_skip ?_
                  refine Z.s_skip ?_
                  refine Z.s_skip ?_
                  refine Z.s_skip ?_
                  refine Z.s_skip ?_
                  refine Z.s_val (Z.pv_pick rfl rfl) ?_
                  refine Z.s_val (Z.pv_assign rfl) ?_
                  refine Z.j_nil ?_
                  refine Z.j_then ?_
                  refine Z.j_ret ?_
                  refine Z.j_done_ret (Z.rv1 (Z.rv_tmp (t := 8) rfl)) ?_
                  first | (rw [walk_z (by omega), List.append_nil]; exact Z.post_of ⟨rfl, rfl⟩ (by repeat (first | with_reducible exact Z.Takes.nil | (apply Z.Takes.cons; (repeat (first | with_reducible exact Z.Take.here | apply Z.Take.there))))) (by repeat (first | with_reducible exact Z.Drop.nil | apply Z.Drop.cons))) | (rw [walk_c (by omega), List.append_nil]; exact Z.post_of ⟨rfl, rfl⟩ (by repeat (first | with_reducible exact Z.Takes.nil | (apply Z.Takes.cons; (repeat (first | with_reducible exact Z.Take.here | apply Z.Take.there))))) (by repeat (first | with_reducible exact Z.Drop.nil | apply Z.Drop.cons))) | (rw [walk_s (by omega) (by omega), ← List.append_assoc]; exact Z.post_of ⟨rfl, rfl⟩ (by repeat (first | with_reducible exact Z.Takes.nil | (apply Z.Takes.cons; (repeat (first | with_reducible exact Z.Take.here | apply Z.Take.there))))) (by repeat (first | with_reducible exact Z.Drop.nil | apply Z.Drop.cons)))


theorem walk_all (w0 : World) (tb ab : Nat) (r : Int) (l : Nat) (B : List (Int × Int) → Z.SP) (xs : List (Int × Int)) (hY : ∀ pre x suf, pre ++ x :: suf = xs → Z.YFn Try.prog w0 l [.int .u32 x.1, .int .i64 x.2] [B pre] [B (pre ++ [x])]) (h : Nat) : h ≤ 32 → ∀ (A : Ar) (i lo : Int) (pre suf : List (Int × Int)), A.ok → (0 ≤ i ∧ i ≤ 4194304) → 0 ≤ lo → lo + pw h ≤ 4294967296 → pre ++ (Ar.walk h A i lo).1 ++ suf = xs → Z.FnD Try.prog w0 32 [.pointer (some ⟨tb, 0, none⟩), .int .i32 i, .agg #[.int .u32 lo, .int .i64 (h : Nat)], .func (.yield l) #[] #[]] [Z.cl tb 52 [.pointer (some ⟨ab, 0, none⟩), .int .i32 r], Arena ab A, B pre] (.bool true) [Z.cl tb 52 [.pointer (some ⟨ab, 0, none⟩), .int .i32 r], Arena ab (Ar.walk h A i lo).2, B (pre ++ (Ar.walk h A i lo).1)] := by
  induction h with
  | zero => intro _ A i lo pre suf hA hi h0 h1 hx; exact walk0_spec w0 tb ab r A l B xs hY i lo pre suf hA hi h0 h1 hx
  | succ h ih => intro hh A i lo pre suf hA hi h0 h1 hx; exact walk1_spec w0 tb ab r A l B xs hY i lo pre suf hA hi h0 h hh h1 hx (ih (by omega))
theorem walked_ok {A : Ar} {r : Int} (h : A.ok) : (A.walked r).ok := walk_ok _ _ _ _ h
theorem walkw_spec (w0 : World) (tb ab : Nat) (r : Int) (A : Ar) (l : Nat) (B : List (Int × Int) → Z.SP) (hA : A.ok) (hr : 0 ≤ r ∧ r ≤ 4194304) (hY : ∀ pre x suf, pre ++ x :: suf = A.pairs r → Z.YFn Try.prog w0 l [.int .u32 x.1, .int .i64 x.2] [B pre] [B (pre ++ [x])]) :
    Z.FnD Try.prog w0 32 [.pointer (some ⟨tb, 0, none⟩), .int .i32 r, .agg #[.int .u32 0, .int .i64 32], .func (.yield l) #[] #[]] [Z.cl tb 52 [.pointer (some ⟨ab, 0, none⟩), .int .i32 r], Arena ab A, B []] (.bool true) [Z.cl tb 52 [.pointer (some ⟨ab, 0, none⟩), .int .i32 r], Arena ab (A.walked r), B (A.pairs r)] :=
  walk_all w0 tb ab r l B (A.pairs r) hY 32 (by omega) A r 0 [] [] hA hr (by omega) (by rw [pw_32]; omega) (by simp [Ar.pairs])

set_option maxHeartbeats 4000000 in
set_option maxRecDepth 100000 in
theorem All1_spec (w0 : World) (tb ab : Nat) (r : Int) (A : Ar) (bx : Nat) (hA : A.ok) (hr : 0 ≤ r ∧ r ≤ 4194304) : Z.Iter Try.prog w0 31 [.pointer (some ⟨bx, 0, none⟩)] (fun (x : Int × Int) => [.int .u32 x.1, .int .i64 x.2]) (A.pairs r) [Z.cl bx 25 [.pointer (some ⟨tb, 0, none⟩)], Z.cl tb 52 [.pointer (some ⟨ab, 0, none⟩), .int .i32 r], Arena ab A] [Z.cl bx 25 [.pointer (some ⟨tb, 0, none⟩)], Z.cl tb 52 [.pointer (some ⟨ab, 0, none⟩), .int .i32 r], Arena ab (A.walked r)] := by
  intro l B hY
  refine Z.fn_enter (n := 11) Try.func31 rfl (by rfl) (by rfl) (fun Fr => ?_)
  refine Z.j_app (by repeat (first | exact Z.App.nil | apply Z.App.cons)) ?_
  refine Z.j_draw (vals := [_, _, _, _, _, _, _]) 7 (by kernel_rfl) (by kernel_rfl) rfl (by rfl) (Z.heads_cons (Z.hq_val (Z.pv_load1 (by rfl) (by repeat (first | with_reducible exact Z.Take.here | apply Z.Take.there)) Try.isAgg25 (by rfl))) (Z.heads_cons (Z.hq_val (Z.pv_load1 (by rfl) (by repeat (first | with_reducible exact Z.Take.here | apply Z.Take.there)) Try.isAgg25 (by rfl))) (Z.heads_cons (Z.hq_val (Z.pv_nil (by rfl))) (Z.heads_cons (Z.hq_val (Z.pv_fieldAddr (by rfl) Try.underlying52 (by rfl) (by exact Try.sizeOf21) (by rfl))) (Z.heads_cons (Z.hq_val (Z.pv_load1 (by rfl) (by repeat (first | with_reducible exact Z.Take.here | apply Z.Take.there)) Try.isAgg21 (by rfl))) (Z.heads_cons (Z.hq_callD (by rfl) (by rfl) (by rfl) isFn22 (by repeat (first | with_reducible exact Z.Takes.nil | (apply Z.Takes.cons; (repeat (first | with_reducible exact Z.Take.here | apply Z.Take.there))))) (by repeat (first | with_reducible exact Z.Takes.nil | (apply Z.Takes.cons; (repeat (first | with_reducible exact Z.Take.here | apply Z.Take.there))))) (whole_spec _)) (Z.heads_cons (Z.hq_val (Z.pv_move (by rfl))) Z.heads_nil))))))) ?_
  refine Z.s_callD rfl rfl rfl isFn32 (by repeat (first | with_reducible exact Z.Takes.nil | (apply Z.Takes.cons; (repeat (first | with_reducible exact Z.Take.here | apply Z.Take.there))))) (by repeat (first | exact Z.App.nil | apply Z.App.cons)) (walkw_spec _ _ _ _ _ l B hA hr hY) ?_
  refine Z.j_nil ?_
  refine Z.j_done Z.rv0 ?_
  exact Z.post_of rfl (by repeat (first | with_reducible exact Z.Takes.nil | (apply Z.Takes.cons; (repeat (first | with_reducible exact Z.Take.here | apply Z.Take.there))))) (by repeat (first | with_reducible exact Z.Drop.nil | apply Z.Drop.cons))

set_option maxHeartbeats 4000000 in
set_option maxRecDepth 100000 in
theorem All_spec (w0 : World) (tb : Nat) : Z.Fn Try.prog w0 20 [.pointer (some ⟨tb, 0, none⟩)] [] (fun v Q => ∃ bx, v = .func (.func 31) #[] #[.pointer (some ⟨bx, 0, none⟩)] ∧ Q = [Z.cl bx 25 [.pointer (some ⟨tb, 0, none⟩)]]) := by
  refine Z.fn_enter (n := 4) Try.func20 rfl (by rfl) (by rfl) (fun Fr => ?_)
  refine Z.j_app (by repeat (first | exact Z.App.nil | apply Z.App.cons)) ?_
  refine Z.j_seq ?_
  refine Z.j_region ?_
  refine Z.s_box1 rfl rfl (fun b1 => ?_)
  refine Z.s_val (Z.pv_assign rfl) ?_
  refine Z.j_nil ?_
  refine Z.j_then ?_
  refine Z.j_seq ?_
  refine Z.j_region ?_
  refine Z.s_val (Z.pv_func rfl rfl) ?_
  refine Z.s_val (Z.pv_assign rfl) ?_
  refine Z.j_nil ?_
  refine Z.j_then ?_
  refine Z.j_ret ?_
  refine Z.j_done_ret (Z.rv1 (Z.rv_tmp (t := 2) rfl)) ?_
  exact Z.post_of ⟨b1, rfl, rfl⟩ (by repeat (first | with_reducible exact Z.Takes.nil | (apply Z.Takes.cons; (repeat (first | with_reducible exact Z.Take.here | apply Z.Take.there))))) (by repeat (first | with_reducible exact Z.Drop.nil | apply Z.Drop.cons))


def pcells (l : List (Int × Int)) : List Value := l.flatMap (fun (x : Int × Int) => [.int .u32 x.1, .int .i64 x.2])
theorem pcells_snoc (l : List (Int × Int)) (x : Int × Int) : pcells (l ++ [x]) = pcells l ++ [.int .u32 x.1, .int .i64 x.2] := by simp [pcells]
theorem pcells_len (l : List (Int × Int)) : (pcells l).length = l.length * 2 := by induction l with | nil => rfl | cons a l ih => simp only [pcells, List.flatMap_cons, List.length_append, List.length_cons, List.length_nil] at ih ⊢; omega
/-- A variable that holds a slice of pairs. -/
def PBox (b : Nat) (l : List (Int × Int)) : Z.SP := Z.ex fun v => Z.wh (v.oneCell' = true) (Z.sep [Z.cl b 36 [v], Z.Own 39 2 v l.length (pcells l)])

theorem pl39 : Z.Pl Try.prog 39 [(0, 1), (1, 1)] := ⟨_, Try.underlying39, fun w => by simp [Try.sizeOf2, Try.sizeOf30]⟩

set_option maxHeartbeats 4000000 in
set_option maxRecDepth 100000 in
theorem pairs_spec (w0 : World) (tb ab : Nat) (r : Int) (A : Ar) (mx : Int) (hA : A.ok) (hr : 0 ≤ r ∧ r ≤ 4194304) (hm : 0 < mx ∧ mx ≤ 1000000) (hl : ((A.pairs r).length : Int) < mx) : Z.Fn Try.prog w0 10 [.pointer (some ⟨tb, 0, none⟩), .int .i64 mx] [Z.cl tb 52 [.pointer (some ⟨ab, 0, none⟩), .int .i32 r], Arena ab A] (fun v Q => Q = [Z.cl tb 52 [.pointer (some ⟨ab, 0, none⟩), .int .i32 r], Arena ab (A.walked r), Z.Own 39 2 v (A.pairs r).length (pcells (A.pairs r))]) := by
  refine Z.fn_enterM (n := 28) Try.func10 rfl (by rfl) (by rfl) (fun Fr => ?_)
  refine Z.j_app (by repeat (first | exact Z.App.nil | apply Z.App.cons)) ?_
  refine Z.j_seq ?_
  refine Z.j_region ?_
  refine Z.s_box1 rfl rfl (fun b3 => ?_)
  refine Z.s_alloc1 Try.zeroValue36 rfl (fun b4 => ?_)
  refine Z.j_nil ?_
  refine Z.j_then ?_
  refine Z.j_seq ?_
  refine Z.j_region ?_
  refine Z.s_buildSlice rfl Try.underlying36 Try.zeroValue39 Try.sizeOf39 rfl rfl rfl rfl (fun b8 => ?_)
  refine Z.s_alloc1 Try.zeroValue36 rfl (fun b5 => ?_)
  refine Z.s_store1 rfl rfl (by first | rfl | assumption) Try.sizeOf36 (by repeat (first | with_reducible exact Z.Upd.here | apply Z.Upd.there)) (by rfl) ?_
  refine Z.j_nil ?_
  refine Z.j_then ?_
  refine Z.j_seq ?_
  refine Z.j_seq ?_
  refine Z.j_region ?_
  refine Z.s_val (Z.pv_load1 rfl (by repeat (first | with_reducible exact Z.Take.here | apply Z.Take.there)) Try.isAgg3 (by rfl)) ?_
  refine Z.s_val (Z.pv_leq rfl rfl) ?_
  refine Z.j_nil ?_
  refine Z.j_then ?_
  refine Z.j_cond rfl (fun hc10 => ?_) (fun hc10 => ?_)
  · exfalso; first | (cases hc10; done) | try (with_reducible first | replace hc10 := of_decide_eq_true hc10 | replace hc10 := of_decide_eq_false hc10 | replace hc10 := Z.nd_true hc10 | replace hc10 := Z.nd_false hc10 | replace hc10 := Z.nn_true hc10 | replace hc10 := Z.nn_false hc10 | replace hc10 := Z.nb_true hc10 | replace hc10 := Z.nb_false hc10); first | omega | (simp_all; done)
  · try (with_reducible first | replace hc10 := of_decide_eq_true hc10 | replace hc10 := of_decide_eq_false hc10 | replace hc10 := Z.nd_true hc10 | replace hc10 := Z.nd_false hc10 | replace hc10 := Z.nn_true hc10 | replace hc10 := Z.nn_false hc10 | replace hc10 := Z.nb_true hc10 | replace hc10 := Z.nb_false hc10)
    first
    | (exfalso; first | (cases hc10; done) | omega)
    | skip
      refine Z.j_skip ?_
      refine Z.j_then ?_
      refine Z.j_seq ?_
      refine Z.j_seq ?_
      refine Z.j_region ?_
      refine Z.s_val (Z.pv_move rfl) ?_
      refine Z.s_call rfl rfl rfl isFn20 (by repeat (first | with_reducible exact Z.Takes.nil | (apply Z.Takes.cons; (repeat (first | with_reducible exact Z.Take.here | apply Z.Take.there))))) (All_spec _ _) ?_
      rintro _ _ ⟨bx, rfl, rfl⟩
      refine Z.j_app (by repeat (first | exact Z.App.nil | apply Z.App.cons)) ?_
      refine Z.j_nil ?_
      refine Z.j_then ?_
      refine Z.j_block ?_
      refine Z.J.own_mk (T := 39) (k := 2) (b := b8) (m := 0) (c := []) (by repeat (first | with_reducible exact Z.Take.here | apply Z.Take.there)) rfl ?_
      refine Z.j_fold (A := PBox b5 []) (As := [Z.cl b5 36 [.slice (some ⟨b8, 0, none⟩) 0 0], Z.Own 39 2 (.slice (some ⟨b8, 0, none⟩) 0 0) 0 []]) (by repeat (first | with_reducible exact Z.Takes.nil | (apply Z.Takes.cons; (repeat (first | with_reducible exact Z.Take.here | apply Z.Take.there))))) (fun _ H => ⟨_, rfl, H⟩) ?_
      refine Z.j_rangeFunc (enc := (fun (x : Int × Int) => [.int .u32 x.1, .int .i64 x.2])) (xs := A.pairs r) (fun pre => [PBox b5 pre, Z.cl b3 3 [.int .i64 mx]]) (fun pre x => [(6, .int .u32 x.1), (7, .int .i64 x.2), (3, .pointer (some ⟨b3, 0, none⟩)), (4, .pointer (some ⟨b4, 0, none⟩)), (5, .pointer (some ⟨b5, 0, none⟩))]) (fun pre x => [PBox b5 pre, Z.cl b3 3 [.int .i64 mx]]) rfl isFn31 (fun _ => rfl) (by decide) (by repeat (first | with_reducible exact Z.Takes.nil | (apply Z.Takes.cons; (repeat (first | with_reducible exact Z.Take.here | apply Z.Take.there))))) (All1_spec w0 tb ab r A bx hA hr) (fun l0 pre x suf Fr0 hx0 => ?_) (fun l0 pre x suf Fr0 hx0 => ?_) (fun bk0 => ?_)
      · show Z.J _ _ _ _ ([PBox b5 pre, Z.cl b3 3 [.int .i64 mx]] ++ Fr0) _
        refine Z.j_app (by repeat (first | exact Z.App.nil | apply Z.App.cons)) ?_
        refine Z.j_seq ?_
        refine Z.j_region ?_
        refine Z.s_val (Z.pv_assign rfl) ?_
        refine Z.j_nil ?_
        refine Z.j_then ?_
        refine Z.j_region ?_
        refine Z.s_val (Z.pv_assign rfl) ?_
        refine Z.j_nil ?_
        refine Z.j_then ?_
        exact Z.j_assigned (by repeat (first | exact trivial | refine ⟨rfl, ?_⟩)) (by repeat (first | with_reducible exact Z.Takes.nil | (apply Z.Takes.cons; (repeat (first | with_reducible exact Z.Take.here | apply Z.Take.there))))) (by repeat (first | with_reducible exact Z.Drop.nil | apply Z.Drop.cons))
      · show Z.J _ _ _ ([(6, .int .u32 x.1), (7, .int .i64 x.2), (3, .pointer (some ⟨b3, 0, none⟩)), (4, .pointer (some ⟨b4, 0, none⟩)), (5, .pointer (some ⟨b5, 0, none⟩))]) ([PBox b5 pre, Z.cl b3 3 [.int .i64 mx]] ++ Fr0) _
        refine Z.j_app (by repeat (first | exact Z.App.nil | apply Z.App.cons)) ?_
        have hlen : (pre.length : Int) + 1 + suf.length = (A.pairs r).length := by rw [← hx0]; simp; omega
        refine Z.j_open (A := PBox b5 pre) (F := fun v => [Z.wh (v.oneCell' = true) (Z.sep [Z.cl b5 36 [v], Z.Own 39 2 v pre.length (pcells pre)])]) (by repeat (first | with_reducible exact Z.Take.here | apply Z.Take.there)) (fun _ ⟨v, H⟩ => ⟨v, Z.sep_one H⟩) (fun v => ?_)
        refine Z.j_app (by repeat (first | exact Z.App.nil | apply Z.App.cons)) ?_
        refine Z.J.wh (fun hv => ?_)
        refine Z.J.flat ?_
        refine Z.j_app (by repeat (first | exact Z.App.nil | apply Z.App.cons)) ?_
        refine Z.j_block ?_
        refine Z.j_seq ?_
        refine Z.j_region ?_
        refine Z.s_val (Z.pv_load1 rfl (by repeat (first | with_reducible exact Z.Take.here | apply Z.Take.there)) Try.isAgg36 (by rfl)) ?_
        refine Z.s_val (Z.pv_move rfl) ?_
        refine Z.s_val (Z.pv_move rfl) ?_
        refine Z.s_val (Z.pv_build rfl Try.zeroValue39 pl39 rfl) ?_
        refine Z.s_buildSlice rfl Try.underlying36 Try.zeroValue39 Try.sizeOf39 rfl rfl rfl rfl (fun b20 => ?_)
        refine Z.s_append (k := 2) (by' := 16) rfl rfl (by repeat (first | with_reducible exact Z.Take.here | apply Z.Take.there)) (Z.reads_cl (by repeat (first | with_reducible exact Z.Take.here | apply Z.Take.there)) (k := 2) (by rfl)) Try.underlying36 Try.typeInfo39 rfl rfl rfl rfl rfl rfl (.inl (by omega)) (by omega) (by omega) (fun v21 hv21 => ?_)
        refine Z.s_store1 rfl rfl (by first | rfl | assumption) Try.sizeOf36 (by repeat (first | with_reducible exact Z.Upd.here | apply Z.Upd.there)) (by rfl) ?_
        refine Z.j_nil ?_
        refine Z.j_then ?_
        refine Z.j_seq ?_
        refine Z.j_region ?_
        refine Z.s_val (Z.pv_load1 rfl (by repeat (first | with_reducible exact Z.Take.here | apply Z.Take.there)) Try.isAgg36 (by rfl)) ?_
        refine Z.s_val (Z.pv_lenO rfl (by repeat (first | with_reducible exact Z.Take.here | apply Z.Take.there)) Try.underlying36) ?_
        refine Z.s_val (Z.pv_load1 rfl (by repeat (first | with_reducible exact Z.Take.here | apply Z.Take.there)) Try.isAgg3 (by rfl)) ?_
        refine Z.s_val (Z.pv_eql rfl rfl) ?_
        refine Z.j_nil ?_
        refine Z.j_then ?_
        refine Z.j_cond rfl (fun hc25 => ?_) (fun hc25 => ?_)
        · exfalso; first | (cases hc25; done) | try (with_reducible first | replace hc25 := of_decide_eq_true hc25 | replace hc25 := of_decide_eq_false hc25 | replace hc25 := Z.nd_true hc25 | replace hc25 := Z.nd_false hc25 | replace hc25 := Z.nn_true hc25 | replace hc25 := Z.nn_false hc25 | replace hc25 := Z.nb_true hc25 | replace hc25 := Z.nb_false hc25); first | omega | (simp_all; done)
        · try (with_reducible first | replace hc25 := of_decide_eq_true hc25 | replace hc25 := of_decide_eq_false hc25 | replace hc25 := Z.nd_true hc25 | replace hc25 := Z.nd_false hc25 | replace hc25 := Z.nn_true hc25 | replace hc25 := Z.nn_false hc25 | replace hc25 := Z.nb_true hc25 | replace hc25 := Z.nb_false hc25)
          first
          | (exfalso; first | (cases hc25; done) | omega)
          | skip
            refine Z.j_skip ?_
            refine Z.j_blk ?_
            refine Z.j_fold (A := PBox b5 (pre ++ [x])) (As := [Z.cl b5 36 [v21], Z.Own 39 2 v21 (pre.length + 1) (pcells pre ++ [.int .u32 x.1, .int .i64 x.2])]) (by repeat (first | with_reducible exact Z.Takes.nil | (apply Z.Takes.cons; (repeat (first | with_reducible exact Z.Take.here | apply Z.Take.there))))) (fun _ H => ⟨v21, hv21, by rw [pcells_snoc]; simpa using H⟩) ?_
            exact Z.j_rp (by repeat (first | with_reducible exact Z.Takes.nil | (apply Z.Takes.cons; (repeat (first | with_reducible exact Z.Take.here | apply Z.Take.there))))) (by repeat (first | with_reducible exact Z.Drop.nil | apply Z.Drop.cons))
      · refine Z.j_app2 (by repeat (first | exact Z.App.nil | apply Z.App.cons)) (by repeat (first | exact Z.App.nil | apply Z.App.cons)) ?_
        refine Z.j_open (A := PBox b5 (A.pairs r)) (F := fun v => [Z.wh (v.oneCell' = true) (Z.sep [Z.cl b5 36 [v], Z.Own 39 2 v (A.pairs r).length (pcells (A.pairs r))])]) (by repeat (first | with_reducible exact Z.Take.here | apply Z.Take.there)) (fun _ ⟨v, H⟩ => ⟨v, Z.sep_one H⟩) (fun v => ?_)
        refine Z.j_app (by repeat (first | exact Z.App.nil | apply Z.App.cons)) ?_
        refine Z.J.wh (fun hv => ?_)
        refine Z.J.flat ?_
        refine Z.j_app (by repeat (first | exact Z.App.nil | apply Z.App.cons)) ?_
        refine Z.j_blk ?_
        refine Z.j_then ?_
        refine Z.j_seq ?_
        refine Z.j_region ?_
        refine Z.s_val (Z.pv_load1 rfl (by repeat (first | with_reducible exact Z.Take.here | apply Z.Take.there)) Try.isAgg36 (by rfl)) ?_
        refine Z.s_store1 rfl rfl (by first | rfl | assumption) Try.sizeOf36 (by repeat (first | with_reducible exact Z.Upd.here | apply Z.Upd.there)) (by rfl) ?_
        refine Z.j_nil ?_
        refine Z.j_then ?_
        refine Z.j_ret ?_
        refine Z.j_doneM_ret (bs := [bk0]) (.cons (by repeat (first | with_reducible exact Z.Take.here | apply Z.Take.there)) .nil) (Z.rv1 (Z.rv_cell1 (x := 4) (T := 36) rfl (by repeat (first | with_reducible exact Z.Take.here | apply Z.Take.there)) Try.isAgg36 (by rfl))) ?_
        exact Z.post_of rfl (by repeat (first | with_reducible exact Z.Takes.nil | (apply Z.Takes.cons; (repeat (first | with_reducible exact Z.Take.here | apply Z.Take.there))))) (by repeat (first | with_reducible exact Z.Drop.nil | apply Z.Drop.cons))

end Go.Proofs.Ytggndcaehjdklaa
