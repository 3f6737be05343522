/- Token: TokenSweeps. -/
import Derived.Test.YtjilnmjjehkidaaS5
import Derived.Test.YtjilnmjjehkidaaT3
import Derived.KernelRfl
namespace Go.Proofs.Ytjilnmjjehkidaa
open Go Go.RowKit
set_option maxHeartbeats 4000000 in
set_option maxRecDepth 100000 in
theorem sweeps_law (w0 : World) (p1 : Option Addr) (n1 cap1 : Nat) (ts : List Int) (idle now : Int) (hts : ts.length = n1) (hp1 : 0 < n1 → ∃ b o, p1 = some ⟨b, o, none⟩ ∧ Z.Ro w0 b o (ts.map (Value.int .i64))) : Z.FnD Try.prog w0 6 [.slice p1 n1 cap1, .int .i64 idle, .int .i64 now] [] (.bool true) [] := by
  obtain ⟨hb1, hb2⟩ := and_bd idle 63 (by decide) (by decide)
  obtain ⟨hb3, hb4⟩ := and_bd now 511 (by decide) (by decide)
  obtain ⟨i0, hi0⟩ : ∃ i0, Z.bitsOf .and .i64 idle 63 = i0 := ⟨_, rfl⟩
  obtain ⟨m0, hm0⟩ : ∃ m0, Z.bitsOf .and .i64 now 511 = m0 := ⟨_, rfl⟩
  rw [hi0] at hb1 hb2
  rw [hm0] at hb3 hb4
  refine Z.Fn.fnD ?_
  refine Z.fn_enter (n := 130) Try.func6 rfl (by rfl) (by rfl) (fun Fr => ?_)
  refine Z.j_app (by repeat (first | exact Z.App.nil | apply Z.App.cons)) ?_
  refine Z.j_seq ?_
  refine Z.j_region ?_
  refine Z.s_val (Z.pv_assign rfl) ?_
  refine Z.j_nil ?_
  refine Z.j_then ?_
  refine Z.j_seq ?_
  refine Z.j_seq ?_
  refine Z.j_region ?_
  refine Z.s_callD rfl rfl rfl isFn7 (by repeat (first | with_reducible exact Z.Takes.nil | (apply Z.Takes.cons; (repeat (first | with_reducible exact Z.Take.here | apply Z.Take.there))))) (by repeat (first | exact Z.App.nil | apply Z.App.cons)) (alive_spec _) ?_
  refine Z.s_val (Z.pv_not rfl) ?_
  refine Z.j_nil ?_
  refine Z.j_then ?_
  refine Z.j_cond rfl (fun hc24 => ?_) (fun hc24 => ?_)
  · exfalso; first | (cases hc24; done) | (simp at hc24; done) | (simp at hc24; omega)
  · try (with_reducible first | replace hc24 := of_decide_eq_true hc24 | replace hc24 := of_decide_eq_false hc24 | replace hc24 := Z.nd_true hc24 | replace hc24 := Z.nd_false hc24 | replace hc24 := Z.nn_true hc24 | replace hc24 := Z.nn_false hc24 | replace hc24 := Z.nb_true hc24 | replace hc24 := Z.nb_false hc24)
    first
    | (exfalso; first | (cases hc24; done) | omega)
    | skip
      refine Z.j_skip ?_
      refine Z.j_then ?_
      refine Z.j_seq ?_
      refine Z.j_seq ?_
      refine Z.j_region ?_
      refine Z.s_val (Z.pv_move rfl) ?_
      refine Z.s_val (Z.pv_len rfl Try.underlying49) ?_
      refine Z.s_val (Z.pv_gtr rfl rfl) ?_
      refine Z.j_nil ?_
      refine Z.j_then ?_
      refine Z.j_cond rfl (fun hc27 => ?_) (fun hc27 => ?_)
      · try (with_reducible first | replace hc27 := of_decide_eq_true hc27 | replace hc27 := of_decide_eq_false hc27 | replace hc27 := Z.nd_true hc27 | replace hc27 := Z.nd_false hc27 | replace hc27 := Z.nn_true hc27 | replace hc27 := Z.nn_false hc27 | replace hc27 := Z.nb_true hc27 | replace hc27 := Z.nb_false hc27)
        first
        | (exfalso; first | (cases hc27; done) | omega)
        | skip
          refine Z.j_seq ?_
          refine Z.j_region ?_
          refine Z.s_val (Z.pv_assign rfl) ?_
          refine Z.j_nil ?_
          refine Z.j_then ?_
          refine Z.j_ret ?_
          refine Z.j_then_ret ?_
          refine Z.j_done_ret (Z.rv1 (Z.rv_tmp (t := 6) rfl)) ?_
          exact Z.post_of ⟨by first | rfl | (congr 1; exact decide_eq_true (by omega)), rfl⟩ (by repeat (first | with_reducible exact Z.Takes.nil | (apply Z.Takes.cons; (repeat (first | with_reducible exact Z.Take.here | apply Z.Take.there))))) (by repeat (first | with_reducible exact Z.Drop.nil | apply Z.Drop.cons))
      · try (with_reducible first | replace hc27 := of_decide_eq_true hc27 | replace hc27 := of_decide_eq_false hc27 | replace hc27 := Z.nd_true hc27 | replace hc27 := Z.nd_false hc27 | replace hc27 := Z.nn_true hc27 | replace hc27 := Z.nn_false hc27 | replace hc27 := Z.nb_true hc27 | replace hc27 := Z.nb_false hc27)
        first
        | (exfalso; first | (cases hc27; done) | omega)
        | skip
          refine Z.j_skip ?_
          refine Z.j_then ?_
          refine Z.j_seq ?_
          refine Z.j_region ?_
          refine Z.s_val (Z.pv_move rfl) ?_
          refine Z.s_val (Z.pv_bits rfl rfl hi0) ?_
          refine Z.s_val (Z.pv_add rfl rfl (by first | exact IntWalk.i64_in _ (by omega) | rfl)) ?_
          refine Z.s_val (Z.pv_assign rfl) ?_
          refine Z.j_nil ?_
          refine Z.j_then ?_
          refine Z.j_seq ?_
          refine Z.j_region ?_
          refine Z.s_val (Z.pv_move rfl) ?_
          refine Z.s_val (Z.pv_bits rfl rfl hm0) ?_
          refine Z.s_val (Z.pv_assign rfl) ?_
          refine Z.j_nil ?_
          refine Z.j_then ?_
          refine Z.j_seq ?_
          refine Z.j_region ?_
          refine Z.s_val (Z.pv_move rfl) ?_
          refine Z.s_call rfl rfl rfl isFn9 (by repeat (first | with_reducible exact Z.Takes.nil | (apply Z.Takes.cons; (repeat (first | with_reducible exact Z.Take.here | apply Z.Take.there))))) (new_spec _ _ _ _ (by decide) (by decide) (span_ok (by omega)) (span_ok (by decide))) ?_
          rintro _ _ ⟨ab, rfl, rfl⟩
          refine Z.j_app (by repeat (first | exact Z.App.nil | apply Z.App.cons)) ?_
          refine Z.s_val (Z.pv_move rfl) ?_
          refine Z.s_val (Z.pv_extract rfl rfl) ?_
          refine Z.s_val (Z.pv_extract rfl rfl) ?_
          refine Z.s_val (Z.pv_assign rfl) ?_
          refine Z.s_val (Z.pv_assign rfl) ?_
          refine Z.j_nil ?_
          refine Z.j_then ?_
          refine Z.j_seq ?_
          refine Z.j_region ?_
          refine Z.s_val (Z.pv_move rfl) ?_
          refine Z.s_call rfl rfl rfl isFn9 (by repeat (first | with_reducible exact Z.Takes.nil | (apply Z.Takes.cons; (repeat (first | with_reducible exact Z.Take.here | apply Z.Take.there))))) (new_spec _ _ _ _ (by decide) (by decide) (span_ok (by omega)) (span_ok (by decide))) ?_
          rintro _ _ ⟨bb, rfl, rfl⟩
          refine Z.j_app (by repeat (first | exact Z.App.nil | apply Z.App.cons)) ?_
          refine Z.s_val (Z.pv_move rfl) ?_
          refine Z.s_val (Z.pv_extract rfl rfl) ?_
          refine Z.s_val (Z.pv_extract rfl rfl) ?_
          refine Z.s_val (Z.pv_assign rfl) ?_
          refine Z.s_val (Z.pv_assign rfl) ?_
          refine Z.j_nil ?_
          refine Z.j_then ?_
          refine Z.j_seq ?_
          refine Z.j_region ?_
          refine Z.s_val (Z.pv_assign rfl) ?_
          refine Z.j_nil ?_
          refine Z.j_then ?_
          refine Z.j_seq ?_
          refine Z.j_seq ?_
          refine Z.j_region ?_
          refine Z.s_val (Z.pv_move rfl) ?_
          refine Z.s_val (Z.pv_len rfl Try.underlying49) ?_
          refine Z.s_val (Z.pv_move rfl) ?_
          refine Z.j_nil ?_
          refine Z.j_then ?_
          refine Z.j_block ?_
          refine Z.j_cast (A := TabP ab ⟨[], 8, 1 + i0, 1000⟩) (B := TabP ab (tabN ts (1 + i0) 0)) (by repeat (first | with_reducible exact Z.Take.here | apply Z.Take.there)) rfl ?_
          refine Z.j_cast (A := TabP bb ⟨[], 8, 1 + i0, 1000⟩) (B := TabP bb (tabN ts (1 + i0) 0)) (by repeat (first | with_reducible exact Z.Take.here | apply Z.Take.there)) rfl ?_
          refine Z.j_initF (E' := [(0, .slice p1 n1 cap1), (7, .int .i64 (1 + i0)), (2, .int .i64 m0), (8, .pointer (some ⟨ab, 0, none⟩)), (10, .pointer (some ⟨bb, 0, none⟩)), (12, .int .i64 (lastN ts (0))), (43, .slice p1 n1 cap1), (44, .int .i64 n1), (45, .int .i64 ((0) : Nat))]) (As := [TabP ab (tabN ts (1 + i0) (0)), TabP bb (tabN ts (1 + i0) (0))]) (Fr := Fr) (by repeat (first | exact trivial | refine ⟨rfl, ?_⟩)) (by repeat (first | with_reducible exact Z.Takes.nil | (apply Z.Takes.cons; (repeat (first | with_reducible exact Z.Take.here | apply Z.Take.there))))) (by repeat (first | with_reducible exact Z.Drop.nil | apply Z.Drop.cons)) ?_
          refine Z.j_loop (X := { x : (Nat) // (x) ≤ n1 }) (fun (x : { x : (Nat) // (x) ≤ n1 }) => [(0, .slice p1 n1 cap1), (7, .int .i64 (1 + i0)), (2, .int .i64 m0), (8, .pointer (some ⟨ab, 0, none⟩)), (10, .pointer (some ⟨bb, 0, none⟩)), (12, .int .i64 (lastN ts (x.1))), (43, .slice p1 n1 cap1), (44, .int .i64 n1), (45, .int .i64 ((x.1) : Nat))]) (fun x => (fun (x : { x : (Nat) // (x) ≤ n1 }) => [TabP ab (tabN ts (1 + i0) (x.1)), TabP bb (tabN ts (1 + i0) (x.1))]) x ++ Fr) (fun (x : { x : (Nat) // (x) ≤ n1 }) => n1 - (x.1)) ⟨(0), by omega⟩ (fun x => ?_)
          obtain ⟨i, hinv⟩ := x
          have hinv' : i ≤ n1 := hinv
          have hi := hinv'
          show Z.J _ _ _ ([(0, .slice p1 n1 cap1), (7, .int .i64 (1 + i0)), (2, .int .i64 m0), (8, .pointer (some ⟨ab, 0, none⟩)), (10, .pointer (some ⟨bb, 0, none⟩)), (12, .int .i64 (lastN ts i)), (43, .slice p1 n1 cap1), (44, .int .i64 n1), (45, .int .i64 (i : Nat))]) ([TabP ab (tabN ts (1 + i0) i), TabP bb (tabN ts (1 + i0) i)] ++ Fr) _
          refine Z.j_app (by repeat (first | exact Z.App.nil | apply Z.App.cons)) ?_
          refine Z.j_seq ?_
          refine Z.j_region ?_
          refine Z.s_val (Z.pv_lss rfl rfl) ?_
          refine Z.j_nil ?_
          refine Z.j_then ?_
          refine Z.j_seq ?_
          refine Z.j_cond rfl (fun hc46 => ?_) (fun hc46 => ?_)
          · try (with_reducible first | replace hc46 := of_decide_eq_true hc46 | replace hc46 := of_decide_eq_false hc46 | replace hc46 := Z.nd_true hc46 | replace hc46 := Z.nd_false hc46 | replace hc46 := Z.nn_true hc46 | replace hc46 := Z.nn_false hc46 | replace hc46 := Z.nb_true hc46 | replace hc46 := Z.nb_false hc46)
            first
            | (exfalso; first | (cases hc46; done) | omega)
            | skip
              obtain ⟨b1, o1, e1, hro1⟩ := hp1 (by omega)
              have hTI := tabN_TI ts (1 + i0) i
              have hok := hTI.ok (by omega)
              have hLb := lastN_bd ts i
              refine Z.j_skip ?_
              refine Z.j_then ?_
              refine Z.j_seq ?_
              refine Z.j_block ?_
              refine Z.j_seq ?_
              refine Z.j_region ?_
              refine Z.s_val (Z.pv_move rfl) ?_
              refine Z.s_val (Z.pv_indexAddr (o' := o1 + i) (b := b1) (o := o1) (len := n1) (cap := cap1) (by show some (Value.slice p1 n1 cap1) = _; rw [e1]) rfl Try.underlying49 Try.sizeOf2 (by omega) (by simp)) ?_
              refine Z.s_val (Z.pv_load1r (v := .int .i64 (ts.getD i 0)) (b := b1) (o := o1) (j := i) rfl hro1 rfl Try.isAgg2 (getmap (by omega))) ?_
              refine Z.s_val (Z.pv_assign rfl) ?_
              refine Z.s_val (Z.pv_assign rfl) ?_
              refine Z.j_nil ?_
              refine Z.j_then ?_
              refine Z.j_seq ?_
              refine Z.j_region ?_
              refine Z.s_val (Z.pv_move rfl) ?_
              refine Z.s_val (Z.pv_move rfl) ?_
              refine Z.s_val (Z.pv_bits rfl rfl rfl) ?_
              refine Z.s_val (Z.pv_max rfl rfl) ?_
              refine Z.s_val (Z.pv_assign rfl) ?_
              refine Z.s_is 12 rfl (show _ = Value.int .i64 (lastN ts (i + 1)) from rfl) ?_
              refine Z.j_nil ?_
              refine Z.j_then ?_
              refine Z.j_seq ?_
              refine Z.j_region ?_
              refine Z.s_val (Z.pv_move rfl) ?_
              refine Z.s_val (Z.pv_move rfl) ?_
              refine Z.s_val (Z.pv_move rfl) ?_
              refine Z.s_val (Z.pv_add rfl rfl (by first | exact IntWalk.i64_in _ (by omega) | rfl)) ?_
              refine Z.s_val (Z.pv_conv rfl Try.underlying3 rfl Try.underlying31 (by first | exact IntWalk.u64_in _ (by omega) | rfl)) ?_
              refine Z.s_val (Z.pv_move rfl) ?_
              refine Z.s_callD rfl rfl rfl isFn10 (by repeat (first | with_reducible exact Z.Takes.nil | (apply Z.Takes.cons; (repeat (first | with_reducible exact Z.Take.here | apply Z.Take.there))))) (by repeat (first | exact Z.App.nil | apply Z.App.cons)) (open_is (T' := (tabN ts (1 + i0) (i + 1))) (p := i) (d := i + 1) hok rfl rfl) ?_
              refine Z.j_nil ?_
              refine Z.j_then ?_
              refine Z.j_region ?_
              refine Z.s_val (Z.pv_move rfl) ?_
              refine Z.s_val (Z.pv_move rfl) ?_
              refine Z.s_val (Z.pv_move rfl) ?_
              refine Z.s_val (Z.pv_add rfl rfl (by first | exact IntWalk.i64_in _ (by omega) | rfl)) ?_
              refine Z.s_val (Z.pv_conv rfl Try.underlying3 rfl Try.underlying31 (by first | exact IntWalk.u64_in _ (by omega) | rfl)) ?_
              refine Z.s_val (Z.pv_move rfl) ?_
              refine Z.s_callD rfl rfl rfl isFn10 (by repeat (first | with_reducible exact Z.Takes.nil | (apply Z.Takes.cons; (repeat (first | with_reducible exact Z.Take.here | apply Z.Take.there))))) (by repeat (first | exact Z.App.nil | apply Z.App.cons)) (open_is (T' := (tabN ts (1 + i0) (i + 1))) (p := i) (d := i + 1) hok rfl rfl) ?_
              refine Z.j_nil ?_
              refine Z.j_blk ?_
              refine Z.j_then ?_
              refine Z.j_region ?_
              refine Z.s_val (Z.pv_add rfl rfl (by first | exact IntWalk.i64_in _ (by omega) | rfl)) ?_
              refine Z.s_val (Z.pv_move rfl) ?_
              refine Z.j_nil ?_
              refine Z.j_then ?_
              (refine Z.j_nextG (X := { x : (Nat) // (x) ≤ n1 }) (EE := (fun (x : { x : (Nat) // (x) ≤ n1 }) => [(0, .slice p1 n1 cap1), (7, .int .i64 (1 + i0)), (2, .int .i64 m0), (8, .pointer (some ⟨ab, 0, none⟩)), (10, .pointer (some ⟨bb, 0, none⟩)), (12, .int .i64 (lastN ts (x.1))), (43, .slice p1 n1 cap1), (44, .int .i64 n1), (45, .int .i64 ((x.1) : Nat))])) (LL := (fun (x : { x : (Nat) // (x) ≤ n1 }) => [TabP ab (tabN ts (1 + i0) (x.1)), TabP bb (tabN ts (1 + i0) (x.1))])) (μ := (fun (x : { x : (Nat) // (x) ≤ n1 }) => n1 - (x.1))) (x := ⟨(i), hinv⟩) ⟨(i + 1), by omega⟩ ?_ ?_ ?_; (show n1 - (i + 1) < n1 - i; omega); (exact (by repeat (first | exact trivial | refine ⟨rfl, ?_⟩))); (exact Z.st_td (by repeat (first | with_reducible exact Z.Takes.nil | (apply Z.Takes.cons; (repeat (first | with_reducible exact Z.Take.here | apply Z.Take.there))))) (by repeat (first | with_reducible exact Z.Drop.nil | apply Z.Drop.cons))))
          · try (with_reducible first | replace hc46 := of_decide_eq_true hc46 | replace hc46 := of_decide_eq_false hc46 | replace hc46 := Z.nd_true hc46 | replace hc46 := Z.nd_false hc46 | replace hc46 := Z.nn_true hc46 | replace hc46 := Z.nn_false hc46 | replace hc46 := Z.nb_true hc46 | replace hc46 := Z.nb_false hc46)
            first
            | (exfalso; first | (cases hc46; done) | omega)
            | skip
              have eN : n1 = i := by omega
              subst eN
              have hTI := tabN_TI ts (1 + i0) n1
              have hok := hTI.ok (by omega)
              have hLb := lastN_bd ts n1
              refine Z.j_exit ?_
              refine Z.j_then_exit ?_
              refine Z.j_then_exit ?_
              refine Z.j_blk_here rfl ?_
              refine Z.j_then ?_
              refine Z.j_seq ?_
              refine Z.j_region ?_
              refine Z.s_val (Z.pv_move rfl) ?_
              refine Z.s_val (Z.pv_move rfl) ?_
              refine Z.s_val (Z.pv_max rfl rfl) ?_
              refine Z.s_val (Z.pv_assign rfl) ?_
              obtain ⟨W, hW⟩ : ∃ W, mx m0 (lastN ts n1) = W := ⟨_, rfl⟩
              have hWb := mx_bd m0 (lastN ts n1)
              rw [hW] at hWb
              refine Z.s_is 2 rfl (show _ = Value.int .i64 W from by rw [← hW]; rfl) ?_
              have hokS := (hTI.sweep (now := W)).ok (by omega)
              have hlB := hTI.len
              have hlS := sweep_len (t := (tabN ts (1 + i0) n1)) (now := W)
              refine Z.j_nil ?_
              refine Z.j_then ?_
              refine Z.j_seq ?_
              refine Z.j_region ?_
              refine Z.s_val (Z.pv_move rfl) ?_
              refine Z.s_callD rfl rfl rfl isFn13 (by repeat (first | with_reducible exact Z.Takes.nil | (apply Z.Takes.cons; (repeat (first | with_reducible exact Z.Take.here | apply Z.Take.there))))) (by repeat (first | exact Z.App.nil | apply Z.App.cons)) (len_spec _ _ (tabN ts (1 + i0) n1)) ?_
              refine Z.s_val (Z.pv_assign rfl) ?_
              refine Z.j_nil ?_
              refine Z.j_then ?_
              refine Z.j_seq ?_
              refine Z.j_region ?_
              refine Z.s_val (Z.pv_move rfl) ?_
              refine Z.s_val (Z.pv_move rfl) ?_
              refine Z.s_callD rfl rfl rfl isFn14 (by repeat (first | with_reducible exact Z.Takes.nil | (apply Z.Takes.cons; (repeat (first | with_reducible exact Z.Take.here | apply Z.Take.there))))) (by repeat (first | exact Z.App.nil | apply Z.App.cons)) (sweep_spec _ _ (tabN ts (1 + i0) n1) W hok) ?_
              refine Z.s_val (Z.pv_assign rfl) ?_
              refine Z.j_nil ?_
              refine Z.j_then ?_
              refine Z.j_seq ?_
              refine Z.j_seq ?_
              refine Z.j_region ?_
              refine Z.s_val (Z.pv_move rfl) ?_
              refine Z.s_callD rfl rfl rfl isFn13 (by repeat (first | with_reducible exact Z.Takes.nil | (apply Z.Takes.cons; (repeat (first | with_reducible exact Z.Take.here | apply Z.Take.there))))) (by repeat (first | exact Z.App.nil | apply Z.App.cons)) (len_spec _ _ ((tabN ts (1 + i0) n1).sweep W)) ?_
              refine Z.s_val (Z.pv_move rfl) ?_
              refine Z.s_val (Z.pv_move rfl) ?_
              refine Z.s_val (Z.pv_sub rfl rfl (by first | exact IntWalk.i64_in _ (by omega) | rfl)) ?_
              refine Z.s_val (Z.pv_neq rfl rfl) ?_
              refine Z.s_val (Z.pv_move rfl) ?_
              refine Z.s_is 83 rfl (show _ = Value.bool false from (by rw [decide_eq_true (by omega)]; rfl)) ?_
              refine Z.s_val (Z.pv_move rfl) ?_
              refine Z.s_val (Z.pv_move rfl) ?_
              refine Z.s_callD rfl rfl rfl isFn14 (by repeat (first | with_reducible exact Z.Takes.nil | (apply Z.Takes.cons; (repeat (first | with_reducible exact Z.Take.here | apply Z.Take.there))))) (by repeat (first | exact Z.App.nil | apply Z.App.cons)) (sweep_is (t := ((tabN ts (1 + i0) n1).sweep W)) (T' := ((tabN ts (1 + i0) n1).sweep W)) (n := 0) hokS sweep_idem (by omega)) ?_
              refine Z.s_val (Z.pv_neq rfl rfl) ?_
              refine Z.s_val (Z.pv_pick rfl rfl) ?_
              refine Z.s_val (Z.pv_move rfl) ?_
              refine Z.s_is 89 rfl (show _ = Value.bool false from rfl) ?_
              refine Z.s_val (Z.pv_move rfl) ?_
              refine Z.s_callD rfl rfl rfl isFn14 (by repeat (first | with_reducible exact Z.Takes.nil | (apply Z.Takes.cons; (repeat (first | with_reducible exact Z.Take.here | apply Z.Take.there))))) (by repeat (first | exact Z.App.nil | apply Z.App.cons)) (sweep_is (t := ((tabN ts (1 + i0) n1).sweep W)) (T' := ((tabN ts (1 + i0) n1).sweep W)) (n := 0) hokS (hTI.sweep.sweep0 (by omega) (by omega)) (by omega)) ?_
              refine Z.s_val (Z.pv_neq rfl rfl) ?_
              refine Z.s_val (Z.pv_pick rfl rfl) ?_
              refine Z.j_nil ?_
              refine Z.j_then ?_
              refine Z.j_cond rfl (fun hc93 => ?_) (fun hc93 => ?_)
              · exfalso; first | (cases hc93; done) | (simp at hc93; done) | (simp at hc93; omega)
              · try (with_reducible first | replace hc93 := of_decide_eq_true hc93 | replace hc93 := of_decide_eq_false hc93 | replace hc93 := Z.nd_true hc93 | replace hc93 := Z.nd_false hc93 | replace hc93 := Z.nn_true hc93 | replace hc93 := Z.nn_false hc93 | replace hc93 := Z.nb_true hc93 | replace hc93 := Z.nb_false hc93)
                first
                | (exfalso; first | (cases hc93; done) | omega)
                | skip
                  refine Z.j_skip ?_
                  refine Z.j_then ?_
                  refine Z.j_seq ?_
                  refine Z.j_region ?_
                  refine Z.s_val (Z.pv_assign rfl) ?_
                  refine Z.j_nil ?_
                  refine Z.j_then ?_
                  refine Z.j_seq ?_
                  refine Z.j_seq ?_
                  refine Z.j_region ?_
                  refine Z.s_val (Z.pv_move rfl) ?_
                  refine Z.s_val (Z.pv_len rfl Try.underlying49) ?_
                  refine Z.s_val (Z.pv_move rfl) ?_
                  refine Z.j_nil ?_
                  refine Z.j_then ?_
                  refine Z.j_block ?_
                  refine Z.j_cast (A := TabP bb (tabN ts (1 + i0) n1)) (B := TabP bb (useN (tabN ts (1 + i0) n1) W 0)) (by repeat (first | with_reducible exact Z.Take.here | apply Z.Take.there)) rfl ?_
                  refine Z.j_cast (A := TabP ab ((tabN ts (1 + i0) n1).sweep W)) (B := TabP ab (useN ((tabN ts (1 + i0) n1).sweep W) W 0)) (by repeat (first | with_reducible exact Z.Take.here | apply Z.Take.there)) rfl ?_
                  refine Z.j_initF (E' := [(2, .int .i64 W), (8, .pointer (some ⟨ab, 0, none⟩)), (10, .pointer (some ⟨bb, 0, none⟩)), (15, .int .i64 (tabN ts (1 + i0) n1).m.length), (16, .int .i64 ((tabN ts (1 + i0) n1).m.length - ((tabN ts (1 + i0) n1).sweep W).m.length)), (17, .int .i64 (cntU (tabN ts (1 + i0) n1) W (0))), (94, .slice p1 n1 cap1), (95, .int .i64 n1), (96, .int .i64 ((0) : Nat))]) (As := [TabP bb (useN (tabN ts (1 + i0) n1) W (0)), TabP ab (useN ((tabN ts (1 + i0) n1).sweep W) W (0))]) (Fr := Fr) (by repeat (first | exact trivial | refine ⟨rfl, ?_⟩)) (by repeat (first | with_reducible exact Z.Takes.nil | (apply Z.Takes.cons; (repeat (first | with_reducible exact Z.Take.here | apply Z.Take.there))))) (by repeat (first | with_reducible exact Z.Drop.nil | apply Z.Drop.cons)) ?_
                  refine Z.j_loop (X := { x : (Nat) // (x) ≤ n1 }) (fun (x : { x : (Nat) // (x) ≤ n1 }) => [(2, .int .i64 W), (8, .pointer (some ⟨ab, 0, none⟩)), (10, .pointer (some ⟨bb, 0, none⟩)), (15, .int .i64 (tabN ts (1 + i0) n1).m.length), (16, .int .i64 ((tabN ts (1 + i0) n1).m.length - ((tabN ts (1 + i0) n1).sweep W).m.length)), (17, .int .i64 (cntU (tabN ts (1 + i0) n1) W (x.1))), (94, .slice p1 n1 cap1), (95, .int .i64 n1), (96, .int .i64 ((x.1) : Nat))]) (fun x => (fun (x : { x : (Nat) // (x) ≤ n1 }) => [TabP bb (useN (tabN ts (1 + i0) n1) W (x.1)), TabP ab (useN ((tabN ts (1 + i0) n1).sweep W) W (x.1))]) x ++ Fr) (fun (x : { x : (Nat) // (x) ≤ n1 }) => n1 - (x.1)) ⟨(0), by omega⟩ (fun x => ?_)
                  obtain ⟨i, hinv⟩ := x
                  have hinv' : i ≤ n1 := hinv
                  have hi := hinv'
                  show Z.J _ _ _ ([(2, .int .i64 W), (8, .pointer (some ⟨ab, 0, none⟩)), (10, .pointer (some ⟨bb, 0, none⟩)), (15, .int .i64 (tabN ts (1 + i0) n1).m.length), (16, .int .i64 ((tabN ts (1 + i0) n1).m.length - ((tabN ts (1 + i0) n1).sweep W).m.length)), (17, .int .i64 (cntU (tabN ts (1 + i0) n1) W i)), (94, .slice p1 n1 cap1), (95, .int .i64 n1), (96, .int .i64 (i : Nat))]) ([TabP bb (useN (tabN ts (1 + i0) n1) W i), TabP ab (useN ((tabN ts (1 + i0) n1).sweep W) W i)] ++ Fr) _
                  refine Z.j_app (by repeat (first | exact Z.App.nil | apply Z.App.cons)) ?_
                  refine Z.j_seq ?_
                  refine Z.j_region ?_
                  refine Z.s_val (Z.pv_lss rfl rfl) ?_
                  refine Z.j_nil ?_
                  refine Z.j_then ?_
                  refine Z.j_seq ?_
                  refine Z.j_cond rfl (fun hc97 => ?_) (fun hc97 => ?_)
                  · try (with_reducible first | replace hc97 := of_decide_eq_true hc97 | replace hc97 := of_decide_eq_false hc97 | replace hc97 := Z.nd_true hc97 | replace hc97 := Z.nd_false hc97 | replace hc97 := Z.nn_true hc97 | replace hc97 := Z.nn_false hc97 | replace hc97 := Z.nb_true hc97 | replace hc97 := Z.nb_false hc97)
                    first
                    | (exfalso; first | (cases hc97; done) | omega)
                    | skip
                      have hE : (useN ((tabN ts (1 + i0) n1).sweep W) W i).useE (i + 1) W = (useN (tabN ts (1 + i0) n1) W i).useE (i + 1) W := by rw [useN_E (hTI.sweep).nd, useN_E hTI.nd, sweep_E hTI.nd]
                      have hcb := cntU_bd (tabN ts (1 + i0) n1) W i
                      refine Z.j_skip ?_
                      refine Z.j_then ?_
                      refine Z.j_seq ?_
                      refine Z.j_block ?_
                      refine Z.j_seq ?_
                      refine Z.j_region ?_
                      refine Z.s_val (Z.pv_move rfl) ?_
                      refine Z.s_val (Z.pv_assign rfl) ?_
                      refine Z.j_nil ?_
                      refine Z.j_then ?_
                      refine Z.j_seq ?_
                      refine Z.j_region ?_
                      refine Z.s_val (Z.pv_move rfl) ?_
                      refine Z.s_val (Z.pv_move rfl) ?_
                      refine Z.s_val (Z.pv_add rfl rfl (by first | exact IntWalk.i64_in _ (by omega) | rfl)) ?_
                      refine Z.s_val (Z.pv_conv rfl Try.underlying3 rfl Try.underlying31 (by first | exact IntWalk.u64_in _ (by omega) | rfl)) ?_
                      refine Z.s_val (Z.pv_move rfl) ?_
                      refine Z.s_callD rfl rfl rfl isFn12 (by repeat (first | with_reducible exact Z.Takes.nil | (apply Z.Takes.cons; (repeat (first | with_reducible exact Z.Take.here | apply Z.Take.there))))) (by repeat (first | exact Z.App.nil | apply Z.App.cons)) (use_is (t := useN (tabN ts (1 + i0) n1) W i) (T' := useN (tabN ts (1 + i0) n1) W (i + 1)) (k := i + 1) rfl rfl rfl) ?_
                      refine Z.s_val (Z.pv_move rfl) ?_
                      refine Z.s_val (Z.pv_extract rfl rfl) ?_
                      refine Z.s_val (Z.pv_extract rfl rfl) ?_
                      refine Z.s_val (Z.pv_assign rfl) ?_
                      refine Z.s_val (Z.pv_assign rfl) ?_
                      refine Z.j_nil ?_
                      refine Z.j_then ?_
                      refine Z.j_seq ?_
                      refine Z.j_region ?_
                      refine Z.s_val (Z.pv_move rfl) ?_
                      refine Z.s_val (Z.pv_move rfl) ?_
                      refine Z.s_val (Z.pv_add rfl rfl (by first | exact IntWalk.i64_in _ (by omega) | rfl)) ?_
                      refine Z.s_val (Z.pv_conv rfl Try.underlying3 rfl Try.underlying31 (by first | exact IntWalk.u64_in _ (by omega) | rfl)) ?_
                      refine Z.s_val (Z.pv_move rfl) ?_
                      refine Z.s_callD rfl rfl rfl isFn12 (by repeat (first | with_reducible exact Z.Takes.nil | (apply Z.Takes.cons; (repeat (first | with_reducible exact Z.Take.here | apply Z.Take.there))))) (by repeat (first | exact Z.App.nil | apply Z.App.cons)) (use_is (t := useN ((tabN ts (1 + i0) n1).sweep W) W i) (T' := useN ((tabN ts (1 + i0) n1).sweep W) W (i + 1)) (k := i + 1) rfl rfl rfl) ?_
                      refine Z.s_val (Z.pv_move rfl) ?_
                      refine Z.s_val (Z.pv_extract rfl rfl) ?_
                      refine Z.s_val (Z.pv_extract rfl rfl) ?_
                      refine Z.s_val (Z.pv_assign rfl) ?_
                      refine Z.s_val (Z.pv_assign rfl) ?_
                      refine Z.j_nil ?_
                      refine Z.j_then ?_
                      refine Z.j_seq ?_
                      refine Z.j_seq ?_
                      refine Z.j_region ?_
                      refine Z.s_val (Z.pv_move rfl) ?_
                      refine Z.s_val (Z.pv_move rfl) ?_
                      refine Z.s_val (Z.pv_neq rfl rfl) ?_
                      refine Z.j_nil ?_
                      refine Z.j_then ?_
                      refine Z.j_cond rfl (fun hc119 => ?_) (fun hc119 => ?_)
                      · try (with_reducible first | replace hc119 := of_decide_eq_true hc119 | replace hc119 := of_decide_eq_false hc119 | replace hc119 := Z.nd_true hc119 | replace hc119 := Z.nd_false hc119 | replace hc119 := Z.nn_true hc119 | replace hc119 := Z.nn_false hc119 | replace hc119 := Z.nb_true hc119 | replace hc119 := Z.nb_false hc119)
                        exact absurd hE.symm hc119
                      · try (with_reducible first | replace hc119 := of_decide_eq_true hc119 | replace hc119 := of_decide_eq_false hc119 | replace hc119 := Z.nd_true hc119 | replace hc119 := Z.nd_false hc119 | replace hc119 := Z.nn_true hc119 | replace hc119 := Z.nn_false hc119 | replace hc119 := Z.nb_true hc119 | replace hc119 := Z.nb_false hc119)
                        first
                        | (exfalso; first | (cases hc119; done) | omega)
                        | skip
                          refine Z.j_skip ?_
                          refine Z.j_then ?_
                          refine Z.j_seq ?_
                          refine Z.j_region ?_
                          refine Z.s_val (Z.pv_move rfl) ?_
                          refine Z.s_val (Z.pv_eql rfl rfl) ?_
                          refine Z.j_nil ?_
                          refine Z.j_then ?_
                          refine Z.j_cond rfl (fun hc121 => ?_) (fun hc121 => ?_)
                          · try (with_reducible first | replace hc121 := of_decide_eq_true hc121 | replace hc121 := of_decide_eq_false hc121 | replace hc121 := Z.nd_true hc121 | replace hc121 := Z.nd_false hc121 | replace hc121 := Z.nn_true hc121 | replace hc121 := Z.nn_false hc121 | replace hc121 := Z.nb_true hc121 | replace hc121 := Z.nb_false hc121)
                            first
                            | (exfalso; first | (cases hc121; done) | omega)
                            | skip
                              refine Z.j_region ?_
                              refine Z.s_val (Z.pv_move rfl) ?_
                              refine Z.s_val (Z.pv_add rfl rfl (by first | exact IntWalk.i64_in _ (by omega) | rfl)) ?_
                              refine Z.s_val (Z.pv_assign rfl) ?_
                              refine Z.j_nil ?_
                              refine Z.j_blk ?_
                              refine Z.j_then ?_
                              refine Z.j_region ?_
                              refine Z.s_val (Z.pv_add rfl rfl (by first | exact IntWalk.i64_in _ (by omega) | rfl)) ?_
                              refine Z.s_val (Z.pv_move rfl) ?_
                              refine Z.j_nil ?_
                              refine Z.j_then ?_
                              refine Z.s_is 17 rfl (show _ = Value.int .i64 (cntU (tabN ts (1 + i0) n1) W (i + 1)) from by have hue := useN_E (now := W) hTI.nd i; rw [hue] at hc121; simp only [cntU]; first | rw [if_pos hc121] | rw [if_neg hc121]) ?_
                              (refine Z.j_nextG (X := { x : (Nat) // (x) ≤ n1 }) (EE := (fun (x : { x : (Nat) // (x) ≤ n1 }) => [(2, .int .i64 W), (8, .pointer (some ⟨ab, 0, none⟩)), (10, .pointer (some ⟨bb, 0, none⟩)), (15, .int .i64 (tabN ts (1 + i0) n1).m.length), (16, .int .i64 ((tabN ts (1 + i0) n1).m.length - ((tabN ts (1 + i0) n1).sweep W).m.length)), (17, .int .i64 (cntU (tabN ts (1 + i0) n1) W (x.1))), (94, .slice p1 n1 cap1), (95, .int .i64 n1), (96, .int .i64 ((x.1) : Nat))])) (LL := (fun (x : { x : (Nat) // (x) ≤ n1 }) => [TabP bb (useN (tabN ts (1 + i0) n1) W (x.1)), TabP ab (useN ((tabN ts (1 + i0) n1).sweep W) W (x.1))])) (μ := (fun (x : { x : (Nat) // (x) ≤ n1 }) => n1 - (x.1))) (x := ⟨(i), hinv⟩) ⟨(i + 1), by omega⟩ ?_ ?_ ?_; (show n1 - (i + 1) < n1 - i; omega); (exact (by repeat (first | exact trivial | refine ⟨rfl, ?_⟩))); (exact Z.st_td (by repeat (first | with_reducible exact Z.Takes.nil | (apply Z.Takes.cons; (repeat (first | with_reducible exact Z.Take.here | apply Z.Take.there))))) (by repeat (first | with_reducible exact Z.Drop.nil | apply Z.Drop.cons))))
                          · try (with_reducible first | replace hc121 := of_decide_eq_true hc121 | replace hc121 := of_decide_eq_false hc121 | replace hc121 := Z.nd_true hc121 | replace hc121 := Z.nd_false hc121 | replace hc121 := Z.nn_true hc121 | replace hc121 := Z.nn_false hc121 | replace hc121 := Z.nb_true hc121 | replace hc121 := Z.nb_false hc121)
                            first
                            | (exfalso; first | (cases hc121; done) | omega)
                            | skip
                              refine Z.j_skip ?_
                              refine Z.j_blk ?_
                              refine Z.j_then ?_
                              refine Z.j_region ?_
                              refine Z.s_val (Z.pv_add rfl rfl (by first | exact IntWalk.i64_in _ (by omega) | rfl)) ?_
                              refine Z.s_val (Z.pv_move rfl) ?_
                              refine Z.j_nil ?_
                              refine Z.j_then ?_
                              refine Z.s_is 17 rfl (show _ = Value.int .i64 (cntU (tabN ts (1 + i0) n1) W (i + 1)) from by have hue := useN_E (now := W) hTI.nd i; rw [hue] at hc121; simp only [cntU]; first | rw [if_pos hc121] | rw [if_neg hc121]) ?_
                              (refine Z.j_nextG (X := { x : (Nat) // (x) ≤ n1 }) (EE := (fun (x : { x : (Nat) // (x) ≤ n1 }) => [(2, .int .i64 W), (8, .pointer (some ⟨ab, 0, none⟩)), (10, .pointer (some ⟨bb, 0, none⟩)), (15, .int .i64 (tabN ts (1 + i0) n1).m.length), (16, .int .i64 ((tabN ts (1 + i0) n1).m.length - ((tabN ts (1 + i0) n1).sweep W).m.length)), (17, .int .i64 (cntU (tabN ts (1 + i0) n1) W (x.1))), (94, .slice p1 n1 cap1), (95, .int .i64 n1), (96, .int .i64 ((x.1) : Nat))])) (LL := (fun (x : { x : (Nat) // (x) ≤ n1 }) => [TabP bb (useN (tabN ts (1 + i0) n1) W (x.1)), TabP ab (useN ((tabN ts (1 + i0) n1).sweep W) W (x.1))])) (μ := (fun (x : { x : (Nat) // (x) ≤ n1 }) => n1 - (x.1))) (x := ⟨(i), hinv⟩) ⟨(i + 1), by omega⟩ ?_ ?_ ?_; (show n1 - (i + 1) < n1 - i; omega); (exact (by repeat (first | exact trivial | refine ⟨rfl, ?_⟩))); (exact Z.st_td (by repeat (first | with_reducible exact Z.Takes.nil | (apply Z.Takes.cons; (repeat (first | with_reducible exact Z.Take.here | apply Z.Take.there))))) (by repeat (first | with_reducible exact Z.Drop.nil | apply Z.Drop.cons))))
                  · try (with_reducible first | replace hc97 := of_decide_eq_true hc97 | replace hc97 := of_decide_eq_false hc97 | replace hc97 := Z.nd_true hc97 | replace hc97 := Z.nd_false hc97 | replace hc97 := Z.nn_true hc97 | replace hc97 := Z.nn_false hc97 | replace hc97 := Z.nb_true hc97 | replace hc97 := Z.nb_false hc97)
                    first
                    | (exfalso; first | (cases hc97; done) | omega)
                    | skip
                      have eN : n1 = i := by omega
                      subst eN
                      have hcs := cnt_sweep (now := W) hTI
                      refine Z.j_exit ?_
                      refine Z.j_then_exit ?_
                      refine Z.j_then_exit ?_
                      refine Z.j_blk_here rfl ?_
                      refine Z.j_then ?_
                      refine Z.j_seq ?_
                      refine Z.j_region ?_
                      refine Z.s_val (Z.pv_move rfl) ?_
                      refine Z.s_val (Z.pv_move rfl) ?_
                      refine Z.s_val (Z.pv_move rfl) ?_
                      refine Z.s_val (Z.pv_sub rfl rfl (by first | exact IntWalk.i64_in _ (by omega) | rfl)) ?_
                      refine Z.s_val (Z.pv_eql rfl rfl) ?_
                      refine Z.s_val (Z.pv_assign rfl) ?_
                      refine Z.j_nil ?_
                      refine Z.j_then ?_
                      refine Z.j_ret ?_
                      refine Z.j_done_ret (Z.rv1 (Z.rv_tmp (t := 6) rfl)) ?_
                      exact Z.post_of ⟨by first | rfl | (congr 1; exact decide_eq_true (by omega)), rfl⟩ (by repeat (first | with_reducible exact Z.Takes.nil | (apply Z.Takes.cons; (repeat (first | with_reducible exact Z.Take.here | apply Z.Take.there))))) (by repeat (first | with_reducible exact Z.Drop.nil | apply Z.Drop.cons))

end Go.Proofs.Ytjilnmjjehkidaa
