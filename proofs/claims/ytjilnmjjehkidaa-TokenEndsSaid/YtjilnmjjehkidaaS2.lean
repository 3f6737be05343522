/- Token: the sort, the keys, all sessions. -/
import Derived.Test.YtjilnmjjehkidaaS1
import Derived.Test.YtjilnmjjehkidaaT1
import Derived.KernelRfl
namespace Go.Proofs.Ytjilnmjjehkidaa
open Go Go.RowKit
set_option maxHeartbeats 4000000 in
set_option maxRecDepth 100000 in
theorem isNaN_spec (w0 : World) (x : Int) : Z.FnD Try.prog w0 47 [.int .u64 x] [] (.bool false) [] := by
  refine Z.Fn.fnD ?_
  refine Z.fn_enter (n := 6) Try.func47 rfl (by rfl) (by rfl) (fun Fr => ?_)
  refine Z.j_app (by repeat (first | exact Z.App.nil | apply Z.App.cons)) ?_
  refine Z.j_seq ?_
  refine Z.j_region ?_
  refine Z.s_val (Z.pv_assign rfl) ?_
  refine Z.j_nil ?_
  refine Z.j_then ?_
  refine Z.j_seq ?_
  refine Z.j_region ?_
  refine Z.s_val (Z.pv_move rfl) ?_
  refine Z.s_val (Z.pv_move rfl) ?_
  refine Z.s_val (Z.pv_neq rfl rfl) ?_
  refine Z.s_val (Z.pv_assign rfl) ?_
  refine Z.j_nil ?_
  refine Z.j_then ?_
  refine Z.j_ret ?_
  refine Z.j_done_ret (Z.rv1 (Z.rv_tmp (t := 2) rfl)) ?_
  exact Z.post_of ⟨by simp, rfl⟩ (by repeat (first | with_reducible exact Z.Takes.nil | (apply Z.Takes.cons; (repeat (first | with_reducible exact Z.Take.here | apply Z.Take.there))))) (by repeat (first | with_reducible exact Z.Drop.nil | apply Z.Drop.cons))

set_option maxHeartbeats 4000000 in
set_option maxRecDepth 100000 in
theorem less_spec (w0 : World) (x y : Int) : Z.FnD Try.prog w0 37 [.int .u64 x, .int .u64 y] [] (.bool (decide (x < y))) [] := by
  refine Z.Fn.fnD ?_
  refine Z.fn_enter (n := 17) Try.func37 rfl (by rfl) (by rfl) (fun Fr => ?_)
  refine Z.j_app (by repeat (first | exact Z.App.nil | apply Z.App.cons)) ?_
  refine Z.j_seq ?_
  refine Z.j_region ?_
  refine Z.s_val (Z.pv_assign rfl) ?_
  refine Z.j_nil ?_
  refine Z.j_then ?_
  refine Z.j_seq ?_
  refine Z.j_region ?_
  refine Z.s_val (Z.pv_move rfl) ?_
  refine Z.s_callD rfl rfl rfl isFn47 (by repeat (first | with_reducible exact Z.Takes.nil | (apply Z.Takes.cons; (repeat (first | with_reducible exact Z.Take.here | apply Z.Take.there))))) (by repeat (first | exact Z.App.nil | apply Z.App.cons)) (isNaN_spec _ _) ?_
  refine Z.s_val (Z.pv_move rfl) ?_
  refine Z.s_is 7 rfl (show _ = Value.bool false from rfl) ?_
  refine Z.s_skip ?_
  refine Z.s_skip ?_
  refine Z.s_skip ?_
  refine Z.s_val (Z.pv_pick rfl rfl) ?_
  refine Z.s_val (Z.pv_move rfl) ?_
  refine Z.s_is 12 rfl (show _ = Value.bool false from rfl) ?_
  refine Z.s_val (Z.pv_move rfl) ?_
  refine Z.s_val (Z.pv_move rfl) ?_
  refine Z.s_val (Z.pv_lss rfl rfl) ?_
  refine Z.s_val (Z.pv_pick rfl rfl) ?_
  refine Z.s_val (Z.pv_assign rfl) ?_
  refine Z.j_nil ?_
  refine Z.j_then ?_
  refine Z.j_ret ?_
  refine Z.j_done_ret (Z.rv1 (Z.rv_tmp (t := 4) rfl)) ?_
  exact Z.post_of ⟨rfl, rfl⟩ (by repeat (first | with_reducible exact Z.Takes.nil | (apply Z.Takes.cons; (repeat (first | with_reducible exact Z.Take.here | apply Z.Take.there))))) (by repeat (first | with_reducible exact Z.Drop.nil | apply Z.Drop.cons))

set_option maxHeartbeats 4000000 in
set_option maxRecDepth 100000 in
theorem ins0_spec (w0 : World) (p : Option Addr) (cap : Nat) : Z.FnD Try.prog w0 31 [.slice p 0 cap, .int .i64 0, .int .i64 0] [] (.tuple #[]) [] := by
  refine Z.Fn.fnD ?_
  refine Z.fn_enter (n := 49) Try.func31 rfl (by rfl) (by rfl) (fun Fr => ?_)
  refine Z.j_app (by repeat (first | exact Z.App.nil | apply Z.App.cons)) ?_
  refine Z.j_seq ?_
  refine Z.j_region ?_
  refine Z.s_val (Z.pv_move rfl) ?_
  refine Z.s_val (Z.pv_add rfl rfl (by first | exact IntWalk.i64_in _ (by omega) | rfl)) ?_
  refine Z.s_val (Z.pv_assign rfl) ?_
  refine Z.j_nil ?_
  refine Z.j_then ?_
  refine Z.j_block ?_
  refine Z.j_initF (E' := [(2, .int .i64 0), (6, .int .i64 1)]) (As := []) (Fr := Fr) (by repeat (first | exact trivial | refine ⟨rfl, ?_⟩)) (by repeat (first | with_reducible exact Z.Takes.nil | (apply Z.Takes.cons; (repeat (first | with_reducible exact Z.Take.here | apply Z.Take.there))))) (by repeat (first | with_reducible exact Z.Drop.nil | apply Z.Drop.cons)) ?_
  refine Z.j_loop (X := { x : (Unit) // True }) (fun (x : { x : (Unit) // True }) => [(2, .int .i64 0), (6, .int .i64 1)]) (fun x => (fun (x : { x : (Unit) // True }) => []) x ++ Fr) (fun (x : { x : (Unit) // True }) => 0) ⟨(()), trivial⟩ (fun x => ?_)
  obtain ⟨u, hinv⟩ := x
  have hinv' : True := hinv
  obtain _ := hinv'
  show Z.J _ _ _ ([(2, .int .i64 0), (6, .int .i64 1)]) ([] ++ Fr) _
  refine Z.j_app (by repeat (first | exact Z.App.nil | apply Z.App.cons)) ?_
  refine Z.j_seq ?_
  refine Z.j_seq ?_
  refine Z.j_region ?_
  refine Z.s_val (Z.pv_move rfl) ?_
  refine Z.s_val (Z.pv_move rfl) ?_
  refine Z.s_val (Z.pv_lss rfl rfl) ?_
  refine Z.j_nil ?_
  refine Z.j_then ?_
  refine Z.j_cond rfl (fun hc12 => ?_) (fun hc12 => ?_)
  · exfalso; first | (cases hc12; done) | (simp at hc12; done) | (simp at hc12; omega)
  · try (with_reducible first | replace hc12 := of_decide_eq_true hc12 | replace hc12 := of_decide_eq_false hc12 | replace hc12 := Z.nd_true hc12 | replace hc12 := Z.nd_false hc12 | replace hc12 := Z.nn_true hc12 | replace hc12 := Z.nn_false hc12 | replace hc12 := Z.nb_true hc12 | replace hc12 := Z.nb_false hc12)
    first
    | (exfalso; first | (cases hc12; done) | omega)
    | skip
      refine Z.j_exit ?_
      refine Z.j_then_exit ?_
      refine Z.j_then_exit ?_
      refine Z.j_blk_here rfl ?_
      refine Z.j_done Z.rv0 ?_
      exact Z.post_of ⟨rfl, rfl⟩ (by repeat (first | with_reducible exact Z.Takes.nil | (apply Z.Takes.cons; (repeat (first | with_reducible exact Z.Take.here | apply Z.Take.there))))) (by repeat (first | with_reducible exact Z.Drop.nil | apply Z.Drop.cons))

set_option maxHeartbeats 4000000 in
set_option maxRecDepth 100000 in
theorem ins1_spec (w0 : World) (db n cap : Nat) (l0 : List Int) (sp : List Value) (hn : l0.length = n) (hn12 : n ≤ 12) (hn0 : 0 < n) : Z.FnD Try.prog w0 31 [.slice (some ⟨db, 0, none⟩) n cap, .int .i64 0, .int .i64 n] [Z.cl db 31 (u64s l0 ++ sp)] (.tuple #[]) [Z.cl db 31 (u64s (sortL l0) ++ sp)] := by
  refine Z.Fn.fnD ?_
  refine Z.fn_enter (n := 49) Try.func31 rfl (by rfl) (by rfl) (fun Fr => ?_)
  refine Z.j_app (by repeat (first | exact Z.App.nil | apply Z.App.cons)) ?_
  refine Z.j_seq ?_
  refine Z.j_region ?_
  refine Z.s_val (Z.pv_move rfl) ?_
  refine Z.s_val (Z.pv_add rfl rfl (by first | exact IntWalk.i64_in _ (by omega) | rfl)) ?_
  refine Z.s_val (Z.pv_assign rfl) ?_
  refine Z.j_nil ?_
  refine Z.j_then ?_
  refine Z.j_block ?_
  refine Z.j_initF (E' := [(0, .slice (some ⟨db, 0, none⟩) n cap), (1, .int .i64 0), (2, .int .i64 n), (6, .int .i64 ((1) : Nat))]) (As := [Z.cl db 31 (u64s (l0) ++ sp)]) (Fr := Fr) (by repeat (first | exact trivial | refine ⟨rfl, ?_⟩)) (by repeat (first | with_reducible exact Z.Takes.nil | (apply Z.Takes.cons; (repeat (first | with_reducible exact Z.Take.here | apply Z.Take.there))))) (by repeat (first | with_reducible exact Z.Drop.nil | apply Z.Drop.cons)) ?_
  refine Z.j_loop (X := { x : (Nat) × (List Int) // (1 ≤ (x.1) ∧ (x.1) ≤ n) ∧ (x.2).length = n ∧ isrt (n - (x.1)) (x.1) (x.2) = sortL l0 }) (fun (x : { x : (Nat) × (List Int) // (1 ≤ (x.1) ∧ (x.1) ≤ n) ∧ (x.2).length = n ∧ isrt (n - (x.1)) (x.1) (x.2) = sortL l0 }) => [(0, .slice (some ⟨db, 0, none⟩) n cap), (1, .int .i64 0), (2, .int .i64 n), (6, .int .i64 ((x.1.1) : Nat))]) (fun x => (fun (x : { x : (Nat) × (List Int) // (1 ≤ (x.1) ∧ (x.1) ≤ n) ∧ (x.2).length = n ∧ isrt (n - (x.1)) (x.1) (x.2) = sortL l0 }) => [Z.cl db 31 (u64s (x.1.2) ++ sp)]) x ++ Fr) (fun (x : { x : (Nat) × (List Int) // (1 ≤ (x.1) ∧ (x.1) ≤ n) ∧ (x.2).length = n ∧ isrt (n - (x.1)) (x.1) (x.2) = sortL l0 }) => n - (x.1.1)) ⟨(1, l0), ⟨by omega, hn, by unfold sortL; rw [hn]⟩⟩ (fun x => ?_)
  obtain ⟨⟨i, l⟩, hinv⟩ := x
  have hinv' : (1 ≤ i ∧ i ≤ n) ∧ l.length = n ∧ isrt (n - i) i l = sortL l0 := hinv
  obtain ⟨hi, hl, hs⟩ := hinv'
  show Z.J _ _ _ ([(0, .slice (some ⟨db, 0, none⟩) n cap), (1, .int .i64 0), (2, .int .i64 n), (6, .int .i64 (i : Nat))]) ([Z.cl db 31 (u64s l ++ sp)] ++ Fr) _
  refine Z.j_app (by repeat (first | exact Z.App.nil | apply Z.App.cons)) ?_
  refine Z.j_seq ?_
  refine Z.j_seq ?_
  refine Z.j_region ?_
  refine Z.s_val (Z.pv_move rfl) ?_
  refine Z.s_val (Z.pv_move rfl) ?_
  refine Z.s_val (Z.pv_lss rfl rfl) ?_
  refine Z.j_nil ?_
  refine Z.j_then ?_
  refine Z.j_cond rfl (fun hc12 => ?_) (fun hc12 => ?_)
  · try (with_reducible first | replace hc12 := of_decide_eq_true hc12 | replace hc12 := of_decide_eq_false hc12 | replace hc12 := Z.nd_true hc12 | replace hc12 := Z.nd_false hc12 | replace hc12 := Z.nn_true hc12 | replace hc12 := Z.nn_false hc12 | replace hc12 := Z.nb_true hc12 | replace hc12 := Z.nb_false hc12)
    first
    | (exfalso; first | (cases hc12; done) | omega)
    | skip
      skip
      refine Z.j_skip ?_
      refine Z.j_then ?_
      refine Z.j_seq ?_
      refine Z.j_block ?_
      refine Z.j_seq ?_
      refine Z.j_region ?_
      refine Z.s_val (Z.pv_move rfl) ?_
      refine Z.s_val (Z.pv_assign rfl) ?_
      refine Z.j_nil ?_
      refine Z.j_then ?_
      refine Z.j_block ?_
      refine Z.j_initF (E' := [(0, .slice (some ⟨db, 0, none⟩) n cap), (1, .int .i64 0), (2, .int .i64 n), (6, .int .i64 (i : Nat)), (7, .int .i64 ((i) : Nat))]) (As := [Z.cl db 31 (u64s (l) ++ sp)]) (Fr := Fr) (by repeat (first | exact trivial | refine ⟨rfl, ?_⟩)) (by repeat (first | with_reducible exact Z.Takes.nil | (apply Z.Takes.cons; (repeat (first | with_reducible exact Z.Take.here | apply Z.Take.there))))) (by repeat (first | with_reducible exact Z.Drop.nil | apply Z.Drop.cons)) ?_
      refine Z.j_loop (X := { x : (Nat) × (List Int) // (x.1) ≤ i ∧ (x.2).length = n ∧ inn (x.1) (x.2) = inn i l }) (fun (x : { x : (Nat) × (List Int) // (x.1) ≤ i ∧ (x.2).length = n ∧ inn (x.1) (x.2) = inn i l }) => [(0, .slice (some ⟨db, 0, none⟩) n cap), (1, .int .i64 0), (2, .int .i64 n), (6, .int .i64 (i : Nat)), (7, .int .i64 ((x.1.1) : Nat))]) (fun x => (fun (x : { x : (Nat) × (List Int) // (x.1) ≤ i ∧ (x.2).length = n ∧ inn (x.1) (x.2) = inn i l }) => [Z.cl db 31 (u64s (x.1.2) ++ sp)]) x ++ Fr) (fun (x : { x : (Nat) × (List Int) // (x.1) ≤ i ∧ (x.2).length = n ∧ inn (x.1) (x.2) = inn i l }) => (x.1.1)) ⟨(i, l), ⟨by omega, hl, rfl⟩⟩ (fun x => ?_)
      obtain ⟨⟨j, l'⟩, hinv2⟩ := x
      have hinv2' : j ≤ i ∧ l'.length = n ∧ inn j l' = inn i l := hinv2
      obtain ⟨hj, hl', hs'⟩ := hinv2'
      show Z.J _ _ _ ([(0, .slice (some ⟨db, 0, none⟩) n cap), (1, .int .i64 0), (2, .int .i64 n), (6, .int .i64 (i : Nat)), (7, .int .i64 (j : Nat))]) ([Z.cl db 31 (u64s l' ++ sp)] ++ Fr) _
      refine Z.j_app (by repeat (first | exact Z.App.nil | apply Z.App.cons)) ?_
      refine Z.j_seq ?_
      refine Z.j_seq ?_
      by_cases hd19 : 0 < (j : Int)
      · skip
        refine Z.j_draw (vals := [_, _, _, _, _, _, _, _, _, _, _, _, _, _, _]) 15 (by kernel_rfl) (by kernel_rfl) rfl (by rfl) (Z.heads_cons (Z.hq_val (Z.pv_move (by rfl))) (Z.heads_cons (Z.hq_val (Z.pv_move (by rfl))) (Z.heads_cons (Z.hq_val (Z.pv_gtr (by rfl) (by rfl))) (Z.heads_cons (Z.hq_val (Z.pv_is (Z.pv_move (by rfl)) (Z.bool_t hd19))) (Z.heads_cons (Z.hq_val (Z.pv_move (by rfl))) (Z.heads_cons (Z.hq_val (Z.pv_move (by rfl))) (Z.heads_cons (Z.hq_val (Z.pv_indexAddr (o' := j) (by rfl) (by rfl) Try.underlying42 (by exact Try.sizeOf31) (by omega) (by simp))) (Z.heads_cons (Z.hq_val (Z.pv_load1 (by rfl) (by repeat (first | with_reducible exact Z.Take.here | apply Z.Take.there)) Try.isAgg31 (get_l (by omega)))) (Z.heads_cons (Z.hq_val (Z.pv_move (by rfl))) (Z.heads_cons (Z.hq_val (Z.pv_move (by rfl))) (Z.heads_cons (Z.hq_val (Z.pv_sub (by rfl) (by rfl) (by first | exact IntWalk.i64_in _ (by omega) | rfl))) (Z.heads_cons (Z.hq_val (Z.pv_indexAddr (o' := j - 1) (by rfl) (by rfl) Try.underlying42 (by exact Try.sizeOf31) (by omega) (by omega))) (Z.heads_cons (Z.hq_val (Z.pv_load1 (by rfl) (by repeat (first | with_reducible exact Z.Take.here | apply Z.Take.there)) Try.isAgg31 (get_l (by omega)))) (Z.heads_cons (Z.hq_callD (by rfl) (by rfl) (by rfl) isFn37 (by repeat (first | with_reducible exact Z.Takes.nil | (apply Z.Takes.cons; (repeat (first | with_reducible exact Z.Take.here | apply Z.Take.there))))) (by repeat (first | with_reducible exact Z.Takes.nil | (apply Z.Takes.cons; (repeat (first | with_reducible exact Z.Take.here | apply Z.Take.there))))) (less_spec _ _ _)) (Z.heads_cons (Z.hq_val (Z.pv_pick (by rfl) (by rfl))) Z.heads_nil))))))))))))))) ?_
        refine Z.j_nil ?_
        refine Z.j_then ?_
        refine Z.j_cond rfl (fun hc30 => ?_) (fun hc30 => ?_)
        · try (with_reducible first | replace hc30 := of_decide_eq_true hc30 | replace hc30 := of_decide_eq_false hc30 | replace hc30 := Z.nd_true hc30 | replace hc30 := Z.nd_false hc30 | replace hc30 := Z.nn_true hc30 | replace hc30 := Z.nn_false hc30 | replace hc30 := Z.nb_true hc30 | replace hc30 := Z.nb_false hc30)
          first
          | (exfalso; first | (cases hc30; done) | omega)
          | skip
            first | exact absurd hc30 (by decide) | skip
            refine Z.j_skip ?_
            refine Z.j_then ?_
            refine Z.j_seq ?_
            refine Z.j_block ?_
            refine Z.j_drawC (vals := [_, _, _, _, _, _, _, _, _, _, _, _, _, _, _, _, _, _]) 18 [15, 17] [.fl, .fl, .fl, .fl, .fl, .fl, .fl, .fl, .fl, .pin 0, .fl, .fl, .fl, .pin 0, .fl, .ch 0, .fl, .ch 1] [] [_, _, _] (by kernel_rfl) (by kernel_rfl) (by kernel_rfl) rfl (by rfl) rfl (by repeat (first | with_reducible exact Z.Takes.nil | (apply Z.Takes.cons; (repeat (first | with_reducible exact Z.Take.here | apply Z.Take.there))))) (Z.hc_cons (Z.hk_fl (Z.pv_move (by rfl))) (Z.hc_cons (Z.hk_fl (Z.pv_move (by rfl))) (Z.hc_cons (Z.hk_fl (Z.pv_move (by rfl))) (Z.hc_cons (Z.hk_fl (Z.pv_move (by rfl))) (Z.hc_cons (Z.hk_fl (Z.pv_sub (by rfl) (by rfl) (by first | exact IntWalk.i64_in _ (by omega) | rfl))) (Z.hc_cons (Z.hk_fl (Z.pv_move (by rfl))) (Z.hc_cons (Z.hk_fl (Z.pv_move (by rfl))) (Z.hc_cons (Z.hk_fl (Z.pv_sub (by rfl) (by rfl) (by first | exact IntWalk.i64_in _ (by omega) | rfl))) (Z.hc_cons (Z.hk_fl (Z.pv_indexAddr (o' := j - 1) (by rfl) (by rfl) Try.underlying42 (by exact Try.sizeOf31) (by omega) (by omega))) (Z.hc_cons (Z.hk_pin (by rfl) (Z.pv_load1 (by rfl) (by repeat (first | with_reducible exact Z.Take.here | apply Z.Take.there)) Try.isAgg31 (get_l (by omega)))) (Z.hc_cons (Z.hk_fl (Z.pv_move (by rfl))) (Z.hc_cons (Z.hk_fl (Z.pv_move (by rfl))) (Z.hc_cons (Z.hk_fl (Z.pv_indexAddr (o' := j) (by rfl) (by rfl) Try.underlying42 (by exact Try.sizeOf31) (by omega) (by simp))) (Z.hc_cons (Z.hk_pin (by rfl) (Z.pv_load1 (by rfl) (by repeat (first | with_reducible exact Z.Take.here | apply Z.Take.there)) Try.isAgg31 (get_l (by omega)))) (Z.hc_cons (Z.hk_fl (Z.pv_indexAddr (o' := j) (by rfl) (by rfl) Try.underlying42 (by exact Try.sizeOf31) (by omega) (by simp))) (Z.hc_cons (Z.hk_store1 (by rfl) (by rfl) (by rfl) (by rfl) (by exact Try.sizeOf31) (by repeat (first | with_reducible exact Z.Upd.here | apply Z.Upd.there)) (ovw_l _ _ _ _ (by first | omega | (simp only [List.length_set]; omega))) (by rfl)) (Z.hc_cons (Z.hk_fl (Z.pv_indexAddr (o' := j - 1) (by rfl) (by rfl) Try.underlying42 (by exact Try.sizeOf31) (by omega) (by omega))) (Z.hc_cons (Z.hk_store1 (by rfl) (by rfl) (by rfl) (by rfl) (by exact Try.sizeOf31) (by repeat (first | with_reducible exact Z.Upd.here | apply Z.Upd.there)) (ovw_l _ _ _ _ (by first | omega | (simp only [List.length_set]; omega))) (by rfl)) Z.hc_nil)))))))))))))))))) (Z.Holds.cons (by repeat (first | with_reducible exact Z.Takes.nil | (apply Z.Takes.cons; (repeat (first | with_reducible exact Z.Take.here | apply Z.Take.there))))) (Z.Holds.cons (by repeat (first | with_reducible exact Z.Takes.nil | (apply Z.Takes.cons; (repeat (first | with_reducible exact Z.Take.here | apply Z.Take.there))))) (Z.Holds.cons (by repeat (first | with_reducible exact Z.Takes.nil | (apply Z.Takes.cons; (repeat (first | with_reducible exact Z.Take.here | apply Z.Take.there))))) Z.Holds.nil))) rfl rfl ?_
            refine Z.j_nil ?_
            refine Z.j_blk ?_
            refine Z.j_then ?_
            refine Z.j_region ?_
            refine Z.s_val (Z.pv_move rfl) ?_
            refine Z.s_val (Z.pv_sub rfl rfl (by first | exact IntWalk.i64_in _ (by omega) | rfl)) ?_
            refine Z.s_val (Z.pv_assign rfl) ?_
            refine Z.j_nil ?_
            refine Z.j_then ?_
            refine Z.s_is 7 rfl (show _ = Value.int .i64 ((j - 1 : Nat) : Int) from by congr 1; omega) ?_
            rw [← swap_eq (by omega)]
            (refine Z.j_nextG (X := { x : (Nat) × (List Int) // (x.1) ≤ i ∧ (x.2).length = n ∧ inn (x.1) (x.2) = inn i l }) (EE := (fun (x : { x : (Nat) × (List Int) // (x.1) ≤ i ∧ (x.2).length = n ∧ inn (x.1) (x.2) = inn i l }) => [(0, .slice (some ⟨db, 0, none⟩) n cap), (1, .int .i64 0), (2, .int .i64 n), (6, .int .i64 (i : Nat)), (7, .int .i64 ((x.1.1) : Nat))])) (LL := (fun (x : { x : (Nat) × (List Int) // (x.1) ≤ i ∧ (x.2).length = n ∧ inn (x.1) (x.2) = inn i l }) => [Z.cl db 31 (u64s (x.1.2) ++ sp)])) (μ := (fun (x : { x : (Nat) × (List Int) // (x.1) ≤ i ∧ (x.2).length = n ∧ inn (x.1) (x.2) = inn i l }) => (x.1.1))) (x := ⟨(j, l'), hinv2⟩) ⟨(j - 1, swap l' (j - 1)), ⟨by omega, by rw [swap_len]; exact hl', by rw [← inn_less (by omega) hc30]; exact hs'⟩⟩ ?_ ?_ ?_; (show (j - 1) < j; omega); (exact (by repeat (first | exact trivial | refine ⟨rfl, ?_⟩))); (exact Z.st_td (by repeat (first | with_reducible exact Z.Takes.nil | (apply Z.Takes.cons; (repeat (first | with_reducible exact Z.Take.here | apply Z.Take.there))))) (by repeat (first | with_reducible exact Z.Drop.nil | apply Z.Drop.cons))))
        · try (with_reducible first | replace hc30 := of_decide_eq_true hc30 | replace hc30 := of_decide_eq_false hc30 | replace hc30 := Z.nd_true hc30 | replace hc30 := Z.nd_false hc30 | replace hc30 := Z.nn_true hc30 | replace hc30 := Z.nn_false hc30 | replace hc30 := Z.nb_true hc30 | replace hc30 := Z.nb_false hc30)
          first
          | (exfalso; first | (cases hc30; done) | omega)
          | skip
            have hlj : l' = inn i l := by rw [← hs']; exact (inn_stop (fun h => by first | exact hc30 | (exfalso; omega))).symm
            refine Z.j_exit ?_
            refine Z.j_then_exit ?_
            refine Z.j_then_exit ?_
            refine Z.j_blk_here rfl ?_
            refine Z.j_blk ?_
            refine Z.j_then ?_
            refine Z.j_region ?_
            refine Z.s_val (Z.pv_move rfl) ?_
            refine Z.s_val (Z.pv_add rfl rfl (by first | exact IntWalk.i64_in _ (by omega) | rfl)) ?_
            refine Z.s_val (Z.pv_assign rfl) ?_
            refine Z.j_nil ?_
            refine Z.j_then ?_
            rw [hlj]
            (refine Z.j_nextG (X := { x : (Nat) × (List Int) // (1 ≤ (x.1) ∧ (x.1) ≤ n) ∧ (x.2).length = n ∧ isrt (n - (x.1)) (x.1) (x.2) = sortL l0 }) (EE := (fun (x : { x : (Nat) × (List Int) // (1 ≤ (x.1) ∧ (x.1) ≤ n) ∧ (x.2).length = n ∧ isrt (n - (x.1)) (x.1) (x.2) = sortL l0 }) => [(0, .slice (some ⟨db, 0, none⟩) n cap), (1, .int .i64 0), (2, .int .i64 n), (6, .int .i64 ((x.1.1) : Nat))])) (LL := (fun (x : { x : (Nat) × (List Int) // (1 ≤ (x.1) ∧ (x.1) ≤ n) ∧ (x.2).length = n ∧ isrt (n - (x.1)) (x.1) (x.2) = sortL l0 }) => [Z.cl db 31 (u64s (x.1.2) ++ sp)])) (μ := (fun (x : { x : (Nat) × (List Int) // (1 ≤ (x.1) ∧ (x.1) ≤ n) ∧ (x.2).length = n ∧ isrt (n - (x.1)) (x.1) (x.2) = sortL l0 }) => n - (x.1.1))) (x := ⟨(i, l), hinv⟩) ⟨(i + 1, inn i l), ⟨by omega, by rw [inn_len]; exact hl, by rw [← isrt_step (by omega)]; exact hs⟩⟩ ?_ ?_ ?_; (show n - (i + 1) < n - i; omega); (exact (by repeat (first | exact trivial | refine ⟨rfl, ?_⟩))); (exact Z.st_td (by repeat (first | with_reducible exact Z.Takes.nil | (apply Z.Takes.cons; (repeat (first | with_reducible exact Z.Take.here | apply Z.Take.there))))) (by repeat (first | with_reducible exact Z.Drop.nil | apply Z.Drop.cons))))
      · skip
        refine Z.j_draw (vals := [_, _, _, _, _, _, _, _, _, _, _, _, _, _, _]) 15 (by kernel_rfl) (by kernel_rfl) rfl (by rfl) (Z.heads_cons (Z.hq_val (Z.pv_move (by rfl))) (Z.heads_cons (Z.hq_val (Z.pv_move (by rfl))) (Z.heads_cons (Z.hq_val (Z.pv_gtr (by rfl) (by rfl))) (Z.heads_cons (Z.hq_val (Z.pv_is (Z.pv_move (by rfl)) (Z.bool_f hd19))) (Z.heads_cons Z.hq_skip (Z.heads_cons Z.hq_skip (Z.heads_cons Z.hq_skip (Z.heads_cons Z.hq_skip (Z.heads_cons Z.hq_skip (Z.heads_cons Z.hq_skip (Z.heads_cons Z.hq_skip (Z.heads_cons Z.hq_skip (Z.heads_cons Z.hq_skip (Z.heads_cons Z.hq_skip (Z.heads_cons (Z.hq_val (Z.pv_pick (by rfl) (by rfl))) Z.heads_nil))))))))))))))) ?_
        refine Z.j_nil ?_
        refine Z.j_then ?_
        refine Z.j_cond rfl (fun hc30 => ?_) (fun hc30 => ?_)
        · try (with_reducible first | replace hc30 := of_decide_eq_true hc30 | replace hc30 := of_decide_eq_false hc30 | replace hc30 := Z.nd_true hc30 | replace hc30 := Z.nd_false hc30 | replace hc30 := Z.nn_true hc30 | replace hc30 := Z.nn_false hc30 | replace hc30 := Z.nb_true hc30 | replace hc30 := Z.nb_false hc30)
          first
          | (exfalso; first | (cases hc30; done) | omega)
          | skip
            first | exact absurd hc30 (by decide) | skip
            refine Z.j_skip ?_
            refine Z.j_then ?_
            refine Z.j_seq ?_
            refine Z.j_block ?_
            refine Z.j_drawC (vals := [_, _, _, _, _, _, _, _, _, _, _, _, _, _, _, _, _, _]) 18 [15, 17] [.fl, .fl, .fl, .fl, .fl, .fl, .fl, .fl, .fl, .pin 0, .fl, .fl, .fl, .pin 0, .fl, .ch 0, .fl, .ch 1] [] [_, _, _] (by kernel_rfl) (by kernel_rfl) (by kernel_rfl) rfl (by rfl) rfl (by repeat (first | with_reducible exact Z.Takes.nil | (apply Z.Takes.cons; (repeat (first | with_reducible exact Z.Take.here | apply Z.Take.there))))) (Z.hc_cons (Z.hk_fl (Z.pv_move (by rfl))) (Z.hc_cons (Z.hk_fl (Z.pv_move (by rfl))) (Z.hc_cons (Z.hk_fl (Z.pv_move (by rfl))) (Z.hc_cons (Z.hk_fl (Z.pv_move (by rfl))) (Z.hc_cons (Z.hk_fl (Z.pv_sub (by rfl) (by rfl) (by first | exact IntWalk.i64_in _ (by omega) | rfl))) (Z.hc_cons (Z.hk_fl (Z.pv_move (by rfl))) (Z.hc_cons (Z.hk_fl (Z.pv_move (by rfl))) (Z.hc_cons (Z.hk_fl (Z.pv_sub (by rfl) (by rfl) (by first | exact IntWalk.i64_in _ (by omega) | rfl))) (Z.hc_cons (Z.hk_fl (Z.pv_indexAddr (o' := j - 1) (by rfl) (by rfl) Try.underlying42 (by exact Try.sizeOf31) (by omega) (by omega))) (Z.hc_cons (Z.hk_pin (by rfl) (Z.pv_load1 (by rfl) (by repeat (first | with_reducible exact Z.Take.here | apply Z.Take.there)) Try.isAgg31 (get_l (by omega)))) (Z.hc_cons (Z.hk_fl (Z.pv_move (by rfl))) (Z.hc_cons (Z.hk_fl (Z.pv_move (by rfl))) (Z.hc_cons (Z.hk_fl (Z.pv_indexAddr (o' := j) (by rfl) (by rfl) Try.underlying42 (by exact Try.sizeOf31) (by omega) (by simp))) (Z.hc_cons (Z.hk_pin (by rfl) (Z.pv_load1 (by rfl) (by repeat (first | with_reducible exact Z.Take.here | apply Z.Take.there)) Try.isAgg31 (get_l (by omega)))) (Z.hc_cons (Z.hk_fl (Z.pv_indexAddr (o' := j) (by rfl) (by rfl) Try.underlying42 (by exact Try.sizeOf31) (by omega) (by simp))) (Z.hc_cons (Z.hk_store1 (by rfl) (by rfl) (by rfl) (by rfl) (by exact Try.sizeOf31) (by repeat (first | with_reducible exact Z.Upd.here | apply Z.Upd.there)) (ovw_l _ _ _ _ (by first | omega | (simp only [List.length_set]; omega))) (by rfl)) (Z.hc_cons (Z.hk_fl (Z.pv_indexAddr (o' := j - 1) (by rfl) (by rfl) Try.underlying42 (by exact Try.sizeOf31) (by omega) (by omega))) (Z.hc_cons (Z.hk_store1 (by rfl) (by rfl) (by rfl) (by rfl) (by exact Try.sizeOf31) (by repeat (first | with_reducible exact Z.Upd.here | apply Z.Upd.there)) (ovw_l _ _ _ _ (by first | omega | (simp only [List.length_set]; omega))) (by rfl)) Z.hc_nil)))))))))))))))))) (Z.Holds.cons (by repeat (first | with_reducible exact Z.Takes.nil | (apply Z.Takes.cons; (repeat (first | with_reducible exact Z.Take.here | apply Z.Take.there))))) (Z.Holds.cons (by repeat (first | with_reducible exact Z.Takes.nil | (apply Z.Takes.cons; (repeat (first | with_reducible exact Z.Take.here | apply Z.Take.there))))) (Z.Holds.cons (by repeat (first | with_reducible exact Z.Takes.nil | (apply Z.Takes.cons; (repeat (first | with_reducible exact Z.Take.here | apply Z.Take.there))))) Z.Holds.nil))) rfl rfl ?_
            refine Z.j_nil ?_
            refine Z.j_blk ?_
            refine Z.j_then ?_
            refine Z.j_region ?_
            refine Z.s_val (Z.pv_move rfl) ?_
            refine Z.s_val (Z.pv_sub rfl rfl (by first | exact IntWalk.i64_in _ (by omega) | rfl)) ?_
            refine Z.s_val (Z.pv_assign rfl) ?_
            refine Z.j_nil ?_
            refine Z.j_then ?_
            refine Z.s_is 7 rfl (show _ = Value.int .i64 ((j - 1 : Nat) : Int) from by congr 1; omega) ?_
            rw [← swap_eq (by omega)]
            (refine Z.j_nextG (X := { x : (Nat) × (List Int) // (x.1) ≤ i ∧ (x.2).length = n ∧ inn (x.1) (x.2) = inn i l }) (EE := (fun (x : { x : (Nat) × (List Int) // (x.1) ≤ i ∧ (x.2).length = n ∧ inn (x.1) (x.2) = inn i l }) => [(0, .slice (some ⟨db, 0, none⟩) n cap), (1, .int .i64 0), (2, .int .i64 n), (6, .int .i64 (i : Nat)), (7, .int .i64 ((x.1.1) : Nat))])) (LL := (fun (x : { x : (Nat) × (List Int) // (x.1) ≤ i ∧ (x.2).length = n ∧ inn (x.1) (x.2) = inn i l }) => [Z.cl db 31 (u64s (x.1.2) ++ sp)])) (μ := (fun (x : { x : (Nat) × (List Int) // (x.1) ≤ i ∧ (x.2).length = n ∧ inn (x.1) (x.2) = inn i l }) => (x.1.1))) (x := ⟨(j, l'), hinv2⟩) ⟨(j - 1, swap l' (j - 1)), ⟨by omega, by rw [swap_len]; exact hl', by rw [← inn_less (by omega) hc30]; exact hs'⟩⟩ ?_ ?_ ?_; (show (j - 1) < j; omega); (exact (by repeat (first | exact trivial | refine ⟨rfl, ?_⟩))); (exact Z.st_td (by repeat (first | with_reducible exact Z.Takes.nil | (apply Z.Takes.cons; (repeat (first | with_reducible exact Z.Take.here | apply Z.Take.there))))) (by repeat (first | with_reducible exact Z.Drop.nil | apply Z.Drop.cons))))
        · try (with_reducible first | replace hc30 := of_decide_eq_true hc30 | replace hc30 := of_decide_eq_false hc30 | replace hc30 := Z.nd_true hc30 | replace hc30 := Z.nd_false hc30 | replace hc30 := Z.nn_true hc30 | replace hc30 := Z.nn_false hc30 | replace hc30 := Z.nb_true hc30 | replace hc30 := Z.nb_false hc30)
          first
          | (exfalso; first | (cases hc30; done) | omega)
          | skip
            have hlj : l' = inn i l := by rw [← hs']; exact (inn_stop (fun h => by first | exact hc30 | (exfalso; omega))).symm
            refine Z.j_exit ?_
            refine Z.j_then_exit ?_
            refine Z.j_then_exit ?_
            refine Z.j_blk_here rfl ?_
            refine Z.j_blk ?_
            refine Z.j_then ?_
            refine Z.j_region ?_
            refine Z.s_val (Z.pv_move rfl) ?_
            refine Z.s_val (Z.pv_add rfl rfl (by first | exact IntWalk.i64_in _ (by omega) | rfl)) ?_
            refine Z.s_val (Z.pv_assign rfl) ?_
            refine Z.j_nil ?_
            refine Z.j_then ?_
            rw [hlj]
            (refine Z.j_nextG (X := { x : (Nat) × (List Int) // (1 ≤ (x.1) ∧ (x.1) ≤ n) ∧ (x.2).length = n ∧ isrt (n - (x.1)) (x.1) (x.2) = sortL l0 }) (EE := (fun (x : { x : (Nat) × (List Int) // (1 ≤ (x.1) ∧ (x.1) ≤ n) ∧ (x.2).length = n ∧ isrt (n - (x.1)) (x.1) (x.2) = sortL l0 }) => [(0, .slice (some ⟨db, 0, none⟩) n cap), (1, .int .i64 0), (2, .int .i64 n), (6, .int .i64 ((x.1.1) : Nat))])) (LL := (fun (x : { x : (Nat) × (List Int) // (1 ≤ (x.1) ∧ (x.1) ≤ n) ∧ (x.2).length = n ∧ isrt (n - (x.1)) (x.1) (x.2) = sortL l0 }) => [Z.cl db 31 (u64s (x.1.2) ++ sp)])) (μ := (fun (x : { x : (Nat) × (List Int) // (1 ≤ (x.1) ∧ (x.1) ≤ n) ∧ (x.2).length = n ∧ isrt (n - (x.1)) (x.1) (x.2) = sortL l0 }) => n - (x.1.1))) (x := ⟨(i, l), hinv⟩) ⟨(i + 1, inn i l), ⟨by omega, by rw [inn_len]; exact hl, by rw [← isrt_step (by omega)]; exact hs⟩⟩ ?_ ?_ ?_; (show n - (i + 1) < n - i; omega); (exact (by repeat (first | exact trivial | refine ⟨rfl, ?_⟩))); (exact Z.st_td (by repeat (first | with_reducible exact Z.Takes.nil | (apply Z.Takes.cons; (repeat (first | with_reducible exact Z.Take.here | apply Z.Take.there))))) (by repeat (first | with_reducible exact Z.Drop.nil | apply Z.Drop.cons))))
  · try (with_reducible first | replace hc12 := of_decide_eq_true hc12 | replace hc12 := of_decide_eq_false hc12 | replace hc12 := Z.nd_true hc12 | replace hc12 := Z.nd_false hc12 | replace hc12 := Z.nn_true hc12 | replace hc12 := Z.nn_false hc12 | replace hc12 := Z.nb_true hc12 | replace hc12 := Z.nb_false hc12)
    first
    | (exfalso; first | (cases hc12; done) | omega)
    | skip
      obtain rfl : i = n := by omega
      rw [isrt_end (Nat.le_refl _)] at hs
      refine Z.j_exit ?_
      refine Z.j_then_exit ?_
      refine Z.j_then_exit ?_
      refine Z.j_blk_here rfl ?_
      rw [hs]
      refine Z.j_done Z.rv0 ?_
      exact Z.post_of ⟨rfl, rfl⟩ (by repeat (first | with_reducible exact Z.Takes.nil | (apply Z.Takes.cons; (repeat (first | with_reducible exact Z.Take.here | apply Z.Take.there))))) (by repeat (first | with_reducible exact Z.Drop.nil | apply Z.Drop.cons))

end Go.Proofs.Ytjilnmjjehkidaa
