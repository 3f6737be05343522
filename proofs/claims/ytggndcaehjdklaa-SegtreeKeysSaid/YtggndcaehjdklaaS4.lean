/- Segtree: the tree's ways. -/
import Derived.Test.YtggndcaehjdklaaS3
namespace Go.Proofs.Ytggndcaehjdklaa
open Go Go.RowKit

theorem set32_spec (w0 : World) (tb ab : Nat) (r : Int) (A : Ar) (i key c s mn mx : Int) (hA : A.ok) (hi : 0 ≤ i ∧ i ≤ 4194304) (hk : 0 ≤ key ∧ key < 4294967296) : Z.FnD Try.prog w0 17 [.pointer (some ⟨tb, 0, none⟩), .int .i32 i, .int .i64 32, .int .u32 key, .agg #[.int .i64 c, .int .i64 s, .int .i64 mn, .int .i64 mx]] [Z.cl tb 52 [.pointer (some ⟨ab, 0, none⟩), .int .i32 r], Arena ab A] (.int .i32 (A.put key ⟨c, s, mn, mx⟩ 32 i).1) [Z.cl tb 52 [.pointer (some ⟨ab, 0, none⟩), .int .i32 r], Arena ab (A.put key ⟨c, s, mn, mx⟩ 32 i).2] := set_all tb ab r key ⟨c, s, mn, mx⟩ hk 32 (by omega) w0 A i hA hi

set_option maxHeartbeats 4000000 in
set_option maxRecDepth 100000 in
theorem missing_spec (w0 : World) (tb ab : Nat) (r : Int) (A : Ar) (key : Int) (hA : A.ok) (hr : 0 ≤ r ∧ r ≤ 4194304) (hk : 0 ≤ key ∧ key < 4294967296) : Z.FnD Try.prog w0 15 [.pointer (some ⟨tb, 0, none⟩), .int .u32 key] [Z.cl tb 52 [.pointer (some ⟨ab, 0, none⟩), .int .i32 r], Arena ab A] (.int .i64 (A.miss key 32 r)) [Z.cl tb 52 [.pointer (some ⟨ab, 0, none⟩), .int .i32 r], Arena ab A] := by
  refine Z.Fn.fnD ?_
  refine Z.fn_enter (n := 27) Try.func15 rfl (by rfl) (by rfl) (fun Fr => ?_)
  refine Z.j_app (by repeat (first | exact Z.App.nil | apply Z.App.cons)) ?_
  refine Z.j_seq ?_
  refine Z.j_region ?_
  refine Z.s_val (Z.pv_assign rfl) ?_
  refine Z.j_nil ?_
  refine Z.j_then ?_
  refine Z.j_seq ?_
  refine Z.j_region ?_
  refine Z.s_val (Z.pv_move rfl) ?_
  refine Z.s_val (Z.pv_nil rfl) ?_
  refine Z.s_val (Z.pv_fieldAddr (o' := 1) rfl Try.underlying52 rfl Try.sizeOf21 rfl) ?_
  refine Z.s_val (Z.pv_load1 rfl (by repeat (first | with_reducible exact Z.Take.here | apply Z.Take.there)) Try.isAgg21 (by rfl)) ?_
  refine Z.s_val (Z.pv_assign rfl) ?_
  refine Z.j_nil ?_
  refine Z.j_then ?_
  refine Z.j_seq ?_
  refine Z.j_seq ?_
  refine Z.j_region ?_
  refine Z.s_val (Z.pv_assign rfl) ?_
  refine Z.j_nil ?_
  refine Z.j_then ?_
  refine Z.j_block ?_
  refine Z.j_initF (E' := [(0, .pointer (some ⟨tb, 0, none⟩)), (1, .int .u32 key), (5, .int .i32 (r)), (6, .int .i64 ((32) : Nat))]) (As := [Z.cl tb 52 [.pointer (some ⟨ab, 0, none⟩), .int .i32 r], Arena ab A]) (Fr := Fr) (by repeat (first | exact trivial | refine ⟨rfl, ?_⟩)) (by repeat (first | with_reducible exact Z.Takes.nil | (apply Z.Takes.cons; (repeat (first | with_reducible exact Z.Take.here | apply Z.Take.there))))) (by repeat (first | with_reducible exact Z.Drop.nil | apply Z.Drop.cons)) ?_
  refine Z.j_loop (X := { x : (Nat) × (Int) // (x.1) ≤ 32 ∧ (0 ≤ (x.2) ∧ (x.2) ≤ 4194304) ∧ A.miss key 32 r = A.miss key (x.1) (x.2) }) (fun (x : { x : (Nat) × (Int) // (x.1) ≤ 32 ∧ (0 ≤ (x.2) ∧ (x.2) ≤ 4194304) ∧ A.miss key 32 r = A.miss key (x.1) (x.2) }) => [(0, .pointer (some ⟨tb, 0, none⟩)), (1, .int .u32 key), (5, .int .i32 (x.1.2)), (6, .int .i64 ((x.1.1) : Nat))]) (fun x => (fun (x : { x : (Nat) × (Int) // (x.1) ≤ 32 ∧ (0 ≤ (x.2) ∧ (x.2) ≤ 4194304) ∧ A.miss key 32 r = A.miss key (x.1) (x.2) }) => [Z.cl tb 52 [.pointer (some ⟨ab, 0, none⟩), .int .i32 r], Arena ab A]) x ++ Fr) (fun (x : { x : (Nat) × (Int) // (x.1) ≤ 32 ∧ (0 ≤ (x.2) ∧ (x.2) ≤ 4194304) ∧ A.miss key 32 r = A.miss key (x.1) (x.2) }) => (x.1.1)) ⟨(32, r), ⟨by omega, hr, rfl⟩⟩ (fun x => ?_)
  obtain ⟨⟨h, i⟩, hinv⟩ := x
  have hinv' : h ≤ 32 ∧ (0 ≤ i ∧ i ≤ 4194304) ∧ A.miss key 32 r = A.miss key h i := hinv
  obtain ⟨hh, hi, hm⟩ := hinv'
  show Z.J _ _ _ ([(0, .pointer (some ⟨tb, 0, none⟩)), (1, .int .u32 key), (5, .int .i32 i), (6, .int .i64 (h : Nat))]) ([Z.cl tb 52 [.pointer (some ⟨ab, 0, none⟩), .int .i32 r], Arena ab A] ++ Fr) _
  refine Z.j_app (by repeat (first | exact Z.App.nil | apply Z.App.cons)) ?_
  refine Z.j_seq ?_
  refine Z.j_seq ?_
  refine Z.j_region ?_
  refine Z.s_val (Z.pv_move rfl) ?_
  refine Z.s_val (Z.pv_gtr rfl rfl) ?_
  refine Z.j_nil ?_
  refine Z.j_then ?_
  refine Z.j_cond rfl (fun hc12 => ?_) (fun hc12 => ?_)
  · try (with_reducible first | replace hc12 := of_decide_eq_true hc12 | replace hc12 := of_decide_eq_false hc12 | replace hc12 := Z.nd_true hc12 | replace hc12 := Z.nd_false hc12 | replace hc12 := Z.nn_true hc12 | replace hc12 := Z.nn_false hc12 | replace hc12 := Z.nb_true hc12 | replace hc12 := Z.nb_false hc12)
    first
    | (exfalso; first | (cases hc12; done) | omega)
    | skip
      refine Z.j_skip ?_
      refine Z.j_then ?_
      refine Z.j_seq ?_
      refine Z.j_block ?_
      refine Z.j_seq ?_
      refine Z.j_seq ?_
      refine Z.j_region ?_
      refine Z.s_val (Z.pv_move rfl) ?_
      refine Z.s_val (Z.pv_eql rfl rfl) ?_
      refine Z.j_nil ?_
      refine Z.j_then ?_
      refine Z.j_cond rfl (fun hc16 => ?_) (fun hc16 => ?_)
      · try (with_reducible first | replace hc16 := of_decide_eq_true hc16 | replace hc16 := of_decide_eq_false hc16 | replace hc16 := Z.nd_true hc16 | replace hc16 := Z.nd_false hc16 | replace hc16 := Z.nn_true hc16 | replace hc16 := Z.nn_false hc16 | replace hc16 := Z.nb_true hc16 | replace hc16 := Z.nb_false hc16)
        first
        | (exfalso; first | (cases hc16; done) | omega)
        | skip
          refine Z.j_seq ?_
          refine Z.j_region ?_
          refine Z.s_val (Z.pv_move rfl) ?_
          refine Z.s_val (Z.pv_add rfl rfl (by first | exact IntWalk.i64_in _ (by omega) | rfl)) ?_
          refine Z.s_val (Z.pv_assign rfl) ?_
          refine Z.j_nil ?_
          refine Z.j_then ?_
          refine Z.j_ret ?_
          refine Z.j_then_ret ?_
          refine Z.j_blk_ret ?_
          refine Z.j_then_ret ?_
          refine Z.j_then_ret ?_
          refine Z.j_blk_ret ?_
          refine Z.j_then_ret ?_
          refine Z.j_done_ret (Z.rv1 (Z.rv_tmp (t := 4) rfl)) ?_
          exact Z.post_of ⟨by rw [hm]; first | (rw [miss_e (by omega) (by omega)]; done) | (rw [miss_0 (by omega)]; first | done | (have hz : h = 0 := by omega); (subst hz; rfl)), rfl⟩ (by repeat (first | with_reducible exact Z.Takes.nil | (apply Z.Takes.cons; (repeat (first | with_reducible exact Z.Take.here | apply Z.Take.there))))) (by repeat (first | with_reducible exact Z.Drop.nil | apply Z.Drop.cons))
      · try (with_reducible first | replace hc16 := of_decide_eq_true hc16 | replace hc16 := of_decide_eq_false hc16 | replace hc16 := Z.nd_true hc16 | replace hc16 := Z.nd_false hc16 | replace hc16 := Z.nn_true hc16 | replace hc16 := Z.nn_false hc16 | replace hc16 := Z.nb_true hc16 | replace hc16 := Z.nb_false hc16)
        first
        | (exfalso; first | (cases hc16; done) | omega)
        | skip
          refine Z.j_skip ?_
          refine Z.j_then ?_
          refine Z.j_region ?_
          refine Z.s_val (Z.pv_move rfl) ?_
          refine Z.s_val (Z.pv_move rfl) ?_
          refine Z.s_callD rfl rfl rfl isFn25 (by repeat (first | with_reducible exact Z.Takes.nil | (apply Z.Takes.cons; (repeat (first | with_reducible exact Z.Take.here | apply Z.Take.there))))) (by repeat (first | exact Z.App.nil | apply Z.App.cons)) (at_spec _ _ _ _ _ _ (by omega)) ?_
          refine Z.s_val (Z.pv_move rfl) ?_
          refine Z.s_val (Z.pv_move rfl) ?_
          refine Z.s_callD rfl rfl rfl isFn24 (by repeat (first | with_reducible exact Z.Takes.nil | (apply Z.Takes.cons; (repeat (first | with_reducible exact Z.Take.here | apply Z.Take.there))))) (by repeat (first | exact Z.App.nil | apply Z.App.cons)) (child_spec _ _ _ _ (by omega) (by omega) (by assumption)) ?_
          refine Z.s_val (Z.pv_assign rfl) ?_
          refine Z.j_nil ?_
          refine Z.j_blk ?_
          refine Z.j_then ?_
          refine Z.j_region ?_
          refine Z.s_val (Z.pv_move rfl) ?_
          refine Z.s_val (Z.pv_sub (c := ((h - 1 : Nat) : Int)) rfl rfl (by rw [show (h : Int) - 1 = ((h - 1 : Nat) : Int) by omega]; exact IntWalk.i64_in _ (by omega))) ?_
          refine Z.s_val (Z.pv_assign rfl) ?_
          refine Z.j_nil ?_
          refine Z.j_then ?_
          (exact Z.j_nextF (X := { x : (Nat) × (Int) // (x.1) ≤ 32 ∧ (0 ≤ (x.2) ∧ (x.2) ≤ 4194304) ∧ A.miss key 32 r = A.miss key (x.1) (x.2) }) (EE := (fun (x : { x : (Nat) × (Int) // (x.1) ≤ 32 ∧ (0 ≤ (x.2) ∧ (x.2) ≤ 4194304) ∧ A.miss key 32 r = A.miss key (x.1) (x.2) }) => [(0, .pointer (some ⟨tb, 0, none⟩)), (1, .int .u32 key), (5, .int .i32 (x.1.2)), (6, .int .i64 ((x.1.1) : Nat))])) (LL := (fun (x : { x : (Nat) × (Int) // (x.1) ≤ 32 ∧ (0 ≤ (x.2) ∧ (x.2) ≤ 4194304) ∧ A.miss key 32 r = A.miss key (x.1) (x.2) }) => [Z.cl tb 52 [.pointer (some ⟨ab, 0, none⟩), .int .i32 r], Arena ab A])) (μ := (fun (x : { x : (Nat) × (Int) // (x.1) ≤ 32 ∧ (0 ≤ (x.2) ∧ (x.2) ≤ 4194304) ∧ A.miss key 32 r = A.miss key (x.1) (x.2) }) => (x.1.1))) (x := ⟨(h, i), hinv⟩) ⟨(h - 1, (A.get i).child key h), ⟨by omega, child_ok (get_ok hA i), by rw [hm]; exact miss_p (by omega) (by omega)⟩⟩ (by show (h - 1) < h; omega) (by repeat (first | exact trivial | refine ⟨rfl, ?_⟩)) (by repeat (first | with_reducible exact Z.Takes.nil | (apply Z.Takes.cons; (repeat (first | with_reducible exact Z.Take.here | apply Z.Take.there))))) (by repeat (first | with_reducible exact Z.Drop.nil | apply Z.Drop.cons)))
  · try (with_reducible first | replace hc12 := of_decide_eq_true hc12 | replace hc12 := of_decide_eq_false hc12 | replace hc12 := Z.nd_true hc12 | replace hc12 := Z.nd_false hc12 | replace hc12 := Z.nn_true hc12 | replace hc12 := Z.nn_false hc12 | replace hc12 := Z.nb_true hc12 | replace hc12 := Z.nb_false hc12)
    first
    | (exfalso; first | (cases hc12; done) | omega)
    | skip
      refine Z.j_exit ?_
      refine Z.j_then_exit ?_
      refine Z.j_then_exit ?_
      refine Z.j_blk_here rfl ?_
      refine Z.j_then ?_
      refine Z.j_seq ?_
      refine Z.j_seq ?_
      refine Z.j_region ?_
      refine Z.s_val (Z.pv_move rfl) ?_
      refine Z.s_val (Z.pv_eql rfl rfl) ?_
      refine Z.j_nil ?_
      refine Z.j_then ?_
      refine Z.j_cond rfl (fun hc26 => ?_) (fun hc26 => ?_)
      · try (with_reducible first | replace hc26 := of_decide_eq_true hc26 | replace hc26 := of_decide_eq_false hc26 | replace hc26 := Z.nd_true hc26 | replace hc26 := Z.nd_false hc26 | replace hc26 := Z.nn_true hc26 | replace hc26 := Z.nn_false hc26 | replace hc26 := Z.nb_true hc26 | replace hc26 := Z.nb_false hc26)
        first
        | (exfalso; first | (cases hc26; done) | omega)
        | skip
          refine Z.j_seq ?_
          refine Z.j_region ?_
          refine Z.s_val (Z.pv_assign rfl) ?_
          refine Z.j_nil ?_
          refine Z.j_then ?_
          refine Z.j_ret ?_
          refine Z.j_then_ret ?_
          refine Z.j_done_ret (Z.rv1 (Z.rv_tmp (t := 4) rfl)) ?_
          exact Z.post_of ⟨by rw [hm]; first | (rw [miss_e (by omega) (by omega)]; done) | (rw [miss_0 (by omega)]; first | done | (have hz : h = 0 := by omega); (subst hz; rfl)), rfl⟩ (by repeat (first | with_reducible exact Z.Takes.nil | (apply Z.Takes.cons; (repeat (first | with_reducible exact Z.Take.here | apply Z.Take.there))))) (by repeat (first | with_reducible exact Z.Drop.nil | apply Z.Drop.cons))
      · try (with_reducible first | replace hc26 := of_decide_eq_true hc26 | replace hc26 := of_decide_eq_false hc26 | replace hc26 := Z.nd_true hc26 | replace hc26 := Z.nd_false hc26 | replace hc26 := Z.nn_true hc26 | replace hc26 := Z.nn_false hc26 | replace hc26 := Z.nb_true hc26 | replace hc26 := Z.nb_false hc26)
        first
        | (exfalso; first | (cases hc26; done) | omega)
        | skip
          refine Z.j_skip ?_
          refine Z.j_then ?_
          refine Z.j_seq ?_
          refine Z.j_region ?_
          refine Z.s_val (Z.pv_assign rfl) ?_
          refine Z.j_nil ?_
          refine Z.j_then ?_
          refine Z.j_ret ?_
          refine Z.j_done_ret (Z.rv1 (Z.rv_tmp (t := 4) rfl)) ?_
          exact Z.post_of ⟨by rw [hm]; first | (rw [miss_e (by omega) (by omega)]; done) | (rw [miss_0 (by omega)]; first | done | (have hz : h = 0 := by omega); (subst hz; rfl)), rfl⟩ (by repeat (first | with_reducible exact Z.Takes.nil | (apply Z.Takes.cons; (repeat (first | with_reducible exact Z.Take.here | apply Z.Take.there))))) (by repeat (first | with_reducible exact Z.Drop.nil | apply Z.Drop.cons))

set_option maxHeartbeats 4000000 in
set_option maxRecDepth 100000 in
theorem put_spec (w0 : World) (tb ab : Nat) (r : Int) (A : Ar) (key v : Int) (hA : A.ok) (hr : 0 ≤ r ∧ r ≤ 4194304) (hk : 0 ≤ key ∧ key < 4294967296) : Z.FnD Try.prog w0 6 [.pointer (some ⟨tb, 0, none⟩), .int .u32 key, .int .i64 v] [Z.cl tb 52 [.pointer (some ⟨ab, 0, none⟩), .int .i32 r], Arena ab A] (.int .i64 (A.putE r key)) [Z.cl tb 52 [.pointer (some ⟨ab, 0, none⟩), .int .i32 (A.putT r key v).1], Arena ab (A.putT r key v).2] := by
  refine Z.Fn.fnD ?_
  refine Z.fn_enter (n := 28) Try.func6 rfl (by rfl) (by rfl) (fun Fr => ?_)
  refine Z.j_app (by repeat (first | exact Z.App.nil | apply Z.App.cons)) ?_
  refine Z.j_seq ?_
  refine Z.j_region ?_
  refine Z.s_val (Z.pv_assign rfl) ?_
  refine Z.j_nil ?_
  refine Z.j_then ?_
  refine Z.j_seq ?_
  refine Z.j_seq ?_
  refine Z.j_draw (vals := [_, _, _, _, _, _, _, _, _]) 9 (by kernel_rfl) (by kernel_rfl) rfl (by rfl) (Z.heads_cons (Z.hq_val (Z.pv_move (by rfl))) (Z.heads_cons (Z.hq_val (Z.pv_move (by rfl))) (Z.heads_cons (Z.hq_callD (by rfl) (by rfl) (by rfl) isFn15 (by repeat (first | with_reducible exact Z.Takes.nil | (apply Z.Takes.cons; (repeat (first | with_reducible exact Z.Take.here | apply Z.Take.there))))) (by repeat (first | with_reducible exact Z.Takes.nil | (apply Z.Takes.cons; (repeat (first | with_reducible exact Z.Take.here | apply Z.Take.there))))) (missing_spec _ _ _ _ _ _ (by assumption) (by omega) (by omega))) (Z.heads_cons (Z.hq_val (Z.pv_move (by rfl))) (Z.heads_cons (Z.hq_val (Z.pv_nil (by rfl))) (Z.heads_cons (Z.hq_val (Z.pv_fieldAddr (o' := 0) (by rfl) Try.underlying52 (by rfl) (by exact Try.sizeOf48) (by rfl))) (Z.heads_cons (Z.hq_val (Z.pv_load1 (by rfl) (by repeat (first | with_reducible exact Z.Take.here | apply Z.Take.there)) Try.isAgg48 (by rfl))) (Z.heads_cons (Z.hq_callD (by rfl) (by rfl) (by rfl) isFn16 (by repeat (first | with_reducible exact Z.Takes.nil | (apply Z.Takes.cons; (repeat (first | with_reducible exact Z.Take.here | apply Z.Take.there))))) (by repeat (first | with_reducible exact Z.Takes.nil | (apply Z.Takes.cons; (repeat (first | with_reducible exact Z.Take.here | apply Z.Take.there))))) (room_spec _ _ _ (by assumption))) (Z.heads_cons (Z.hq_val (Z.pv_gtr (by rfl) (by rfl))) Z.heads_nil))))))))) ?_
  refine Z.j_nil ?_
  refine Z.j_then ?_
  refine Z.j_cond rfl (fun hc15 => ?_) (fun hc15 => ?_)
  · try (with_reducible first | replace hc15 := of_decide_eq_true hc15 | replace hc15 := of_decide_eq_false hc15 | replace hc15 := Z.nd_true hc15 | replace hc15 := Z.nd_false hc15 | replace hc15 := Z.nn_true hc15 | replace hc15 := Z.nn_false hc15 | replace hc15 := Z.nb_true hc15 | replace hc15 := Z.nb_false hc15)
    first
    | (exfalso; first | (cases hc15; done) | omega)
    | skip
      refine Z.j_seq ?_
      refine Z.j_region ?_
      refine Z.s_val (Z.pv_assign rfl) ?_
      refine Z.j_nil ?_
      refine Z.j_then ?_
      refine Z.j_ret ?_
      refine Z.j_then_ret ?_
      refine Z.j_done_ret (Z.rv1 (Z.rv_tmp (t := 6) rfl)) ?_
      first | (rw [putE_t hc15, putT_t hc15]; exact Z.post_of ⟨rfl, rfl⟩ (by repeat (first | with_reducible exact Z.Takes.nil | (apply Z.Takes.cons; (repeat (first | with_reducible exact Z.Take.here | apply Z.Take.there))))) (by repeat (first | with_reducible exact Z.Drop.nil | apply Z.Drop.cons))) | (rw [putE_f hc15, putT_f hc15]; exact Z.post_of ⟨rfl, rfl⟩ (by repeat (first | with_reducible exact Z.Takes.nil | (apply Z.Takes.cons; (repeat (first | with_reducible exact Z.Take.here | apply Z.Take.there))))) (by repeat (first | with_reducible exact Z.Drop.nil | apply Z.Drop.cons)))
  · try (with_reducible first | replace hc15 := of_decide_eq_true hc15 | replace hc15 := of_decide_eq_false hc15 | replace hc15 := Z.nd_true hc15 | replace hc15 := Z.nd_false hc15 | replace hc15 := Z.nn_true hc15 | replace hc15 := Z.nn_false hc15 | replace hc15 := Z.nb_true hc15 | replace hc15 := Z.nb_false hc15)
    first
    | (exfalso; first | (cases hc15; done) | omega)
    | skip
      refine Z.j_skip ?_
      refine Z.j_then ?_
      refine Z.j_seq ?_
      refine Z.j_drawC (vals := [_, _, _, _, _, _, _, _, _, _, _, _, _]) 13 [9, 12] [.fl, .fl, .fl, .fl, .fl, .pin 0, .fl, .fl, .pin 0, .ch 0, .fl, .fl, .ch 1] [] [_, _, _] (by kernel_rfl) (by kernel_rfl) (by kernel_rfl) rfl (by rfl) rfl (by repeat (first | with_reducible exact Z.Takes.nil | (apply Z.Takes.cons; (repeat (first | with_reducible exact Z.Take.here | apply Z.Take.there))))) (Z.hc_cons (Z.hk_fl (Z.pv_move (by rfl))) (Z.hc_cons (Z.hk_fl (Z.pv_move (by rfl))) (Z.hc_cons (Z.hk_fl (Z.pv_move (by rfl))) (Z.hc_cons (Z.hk_fl (Z.pv_nil (by rfl))) (Z.hc_cons (Z.hk_fl (Z.pv_fieldAddr (o' := 1) (by rfl) Try.underlying52 (by rfl) (by exact Try.sizeOf21) (by rfl))) (Z.hc_cons (Z.hk_pin (by rfl) (Z.pv_load1 (by rfl) (by repeat (first | with_reducible exact Z.Take.here | apply Z.Take.there)) Try.isAgg21 (by rfl))) (Z.hc_cons (Z.hk_fl (Z.pv_move (by rfl))) (Z.hc_cons (Z.hk_fl (Z.pv_move (by rfl))) (Z.hc_cons (Z.hk_pincall (by rfl) (by rfl) (by rfl) (by rfl) isFn18 (by repeat (first | with_reducible exact Z.Takes.nil | (apply Z.Takes.cons; (repeat (first | with_reducible exact Z.Take.here | apply Z.Take.there))))) (by repeat (first | with_reducible exact Z.Takes.nil | (apply Z.Takes.cons; (repeat (first | with_reducible exact Z.Take.here | apply Z.Take.there))))) (one_spec _ _)) (Z.hc_cons (Z.hk_call (by rfl) (by rfl) (by rfl) (by rfl) isFn17 (by repeat (first | with_reducible exact Z.Takes.nil | (apply Z.Takes.cons; (repeat (first | with_reducible exact Z.Take.here | apply Z.Take.there))))) (by repeat (first | exact Z.App.nil | apply Z.App.cons)) (set32_spec _ _ _ _ _ _ _ _ _ _ _ (by assumption) (by omega) (by omega)) (by rfl)) (Z.hc_cons (Z.hk_fl (Z.pv_nil (by rfl))) (Z.hc_cons (Z.hk_fl (Z.pv_fieldAddr (o' := 1) (by rfl) Try.underlying52 (by rfl) (by exact Try.sizeOf21) (by rfl))) (Z.hc_cons (Z.hk_store1 (by rfl) (by rfl) (by rfl) (by first | rfl | assumption) (by exact Try.sizeOf21) (by repeat (first | with_reducible exact Z.Upd.here | apply Z.Upd.there)) (by rfl) (by rfl)) Z.hc_nil))))))))))))) (Z.Holds.cons (by repeat (first | with_reducible exact Z.Takes.nil | (apply Z.Takes.cons; (repeat (first | with_reducible exact Z.Take.here | apply Z.Take.there))))) (Z.Holds.cons (by repeat (first | with_reducible exact Z.Takes.nil | (apply Z.Takes.cons; (repeat (first | with_reducible exact Z.Take.here | apply Z.Take.there))))) (Z.Holds.cons (by repeat (first | with_reducible exact Z.Takes.nil | (apply Z.Takes.cons; (repeat (first | with_reducible exact Z.Take.here | apply Z.Take.there))))) Z.Holds.nil))) rfl rfl ?_
      refine Z.j_nil ?_
      refine Z.j_then ?_
      refine Z.j_seq ?_
      refine Z.j_region ?_
      refine Z.s_val (Z.pv_assign rfl) ?_
      refine Z.j_nil ?_
      refine Z.j_then ?_
      refine Z.j_ret ?_
      refine Z.j_done_ret (Z.rv1 (Z.rv_tmp (t := 6) rfl)) ?_
      first | (rw [putE_t hc15, putT_t hc15]; exact Z.post_of ⟨rfl, rfl⟩ (by repeat (first | with_reducible exact Z.Takes.nil | (apply Z.Takes.cons; (repeat (first | with_reducible exact Z.Take.here | apply Z.Take.there))))) (by repeat (first | with_reducible exact Z.Drop.nil | apply Z.Drop.cons))) | (rw [putE_f hc15, putT_f hc15]; exact Z.post_of ⟨rfl, rfl⟩ (by repeat (first | with_reducible exact Z.Takes.nil | (apply Z.Takes.cons; (repeat (first | with_reducible exact Z.Take.here | apply Z.Take.there))))) (by repeat (first | with_reducible exact Z.Drop.nil | apply Z.Drop.cons)))

set_option maxHeartbeats 4000000 in
set_option maxRecDepth 100000 in
theorem new_spec (w0 : World) (n : Int) (hn : 1 ≤ n ∧ n ≤ 4194304) : Z.Fn Try.prog w0 5 [.int .i64 n] [] (fun v Q => ∃ tb ab, v = .tuple #[.pointer (some ⟨tb, 0, none⟩), .int .i64 0] ∧ Q = [Z.cl tb 52 [.pointer (some ⟨ab, 0, none⟩), .int .i32 0], Arena ab ⟨[], n⟩]) := by
  refine Z.fn_enter (n := 17) Try.func5 rfl (by rfl) (by rfl) (fun Fr => ?_)
  refine Z.j_app (by repeat (first | exact Z.App.nil | apply Z.App.cons)) ?_
  refine Z.j_seq ?_
  refine Z.j_region ?_
  refine Z.s_val (Z.pv_assign rfl) ?_
  refine Z.s_val (Z.pv_assign rfl) ?_
  refine Z.j_nil ?_
  refine Z.j_then ?_
  refine Z.j_seq ?_
  refine Z.j_region ?_
  refine Z.s_val (Z.pv_move rfl) ?_
  refine Z.s_call rfl rfl rfl isFn14 (by repeat (first | with_reducible exact Z.Takes.nil | (apply Z.Takes.cons; (repeat (first | with_reducible exact Z.Take.here | apply Z.Take.there))))) (arenaNew_spec _ _ (by omega)) ?_
  rintro _ _ ⟨ab, rfl, rfl⟩
  refine Z.j_app (by repeat (first | exact Z.App.nil | apply Z.App.cons)) ?_
  refine Z.s_val (Z.pv_move rfl) ?_
  refine Z.s_val (Z.pv_extract rfl rfl) ?_
  refine Z.s_val (Z.pv_extract rfl rfl) ?_
  refine Z.s_val (Z.pv_assign rfl) ?_
  refine Z.s_val (Z.pv_assign rfl) ?_
  refine Z.j_nil ?_
  refine Z.j_then ?_
  refine Z.j_seq ?_
  refine Z.j_seq ?_
  refine Z.j_region ?_
  refine Z.s_val (Z.pv_move rfl) ?_
  refine Z.s_val (Z.pv_neq rfl rfl) ?_
  refine Z.j_nil ?_
  refine Z.j_then ?_
  refine Z.j_cond rfl (fun hc12 => ?_) (fun hc12 => ?_)
  · try (with_reducible first | replace hc12 := of_decide_eq_true hc12 | replace hc12 := of_decide_eq_false hc12 | replace hc12 := Z.nd_true hc12 | replace hc12 := Z.nd_false hc12 | replace hc12 := Z.nn_true hc12 | replace hc12 := Z.nn_false hc12 | replace hc12 := Z.nb_true hc12 | replace hc12 := Z.nb_false hc12)
    first
    | (exfalso; first | (cases hc12; done) | omega)
    | skip
      refine Z.j_seq ?_
      refine Z.j_region ?_
      refine Z.s_val (Z.pv_move rfl) ?_
      refine Z.s_val (Z.pv_assign rfl) ?_
      refine Z.s_val (Z.pv_assign rfl) ?_
      refine Z.j_nil ?_
      refine Z.j_then ?_
      refine Z.j_ret ?_
      refine Z.j_then_ret ?_
      refine Z.j_done_ret (Z.rv2 (Z.rv_tmp (t := 2) rfl) (Z.rv_tmp (t := 3) rfl)) ?_
      exact Z.post_of ⟨b16, ab, rfl, rfl⟩ (by repeat (first | with_reducible exact Z.Takes.nil | (apply Z.Takes.cons; (repeat (first | with_reducible exact Z.Take.here | apply Z.Take.there))))) (by repeat (first | with_reducible exact Z.Drop.nil | apply Z.Drop.cons))
  · try (with_reducible first | replace hc12 := of_decide_eq_true hc12 | replace hc12 := of_decide_eq_false hc12 | replace hc12 := Z.nd_true hc12 | replace hc12 := Z.nd_false hc12 | replace hc12 := Z.nn_true hc12 | replace hc12 := Z.nn_false hc12 | replace hc12 := Z.nb_true hc12 | replace hc12 := Z.nb_false hc12)
    first
    | (exfalso; first | (cases hc12; done) | omega)
    | skip
      refine Z.j_skip ?_
      refine Z.j_then ?_
      refine Z.j_seq ?_
      refine Z.j_region ?_
      refine Z.s_val (Z.pv_move rfl) ?_
      refine Z.s_val (Z.pv_build rfl Try.zeroValue52 pl52 rfl) ?_
      refine Z.s_box rfl (fun b16 => ?_)
      refine Z.s_val (Z.pv_assign rfl) ?_
      refine Z.s_val (Z.pv_assign rfl) ?_
      refine Z.j_nil ?_
      refine Z.j_then ?_
      refine Z.j_ret ?_
      refine Z.j_done_ret (Z.rv2 (Z.rv_tmp (t := 2) rfl) (Z.rv_tmp (t := 3) rfl)) ?_
      exact Z.post_of ⟨b16, ab, rfl, rfl⟩ (by repeat (first | with_reducible exact Z.Takes.nil | (apply Z.Takes.cons; (repeat (first | with_reducible exact Z.Take.here | apply Z.Take.there))))) (by repeat (first | with_reducible exact Z.Drop.nil | apply Z.Drop.cons))

end Go.Proofs.Ytggndcaehjdklaa
