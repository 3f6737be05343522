/- Token: the keys, all sessions. -/
import Derived.Test.YtjilnmjjehkidaaS2
import Derived.KernelRfl
namespace Go.Proofs.Ytjilnmjjehkidaa
open Go Go.RowKit
set_option maxHeartbeats 4000000 in
set_option maxRecDepth 100000 in
theorem len64_spec (w0 : World) (x : Int) (h0 : 0 ≤ x) (h1 : x ≤ 12) : Z.Fn Try.prog w0 41 [.int .u64 x] [] (fun v Q => ∃ r, v = .int .i64 r ∧ Q = []) := by
  refine Z.fn_enter (n := 25) Try.func41 rfl (by rfl) (by rfl) (fun Fr => ?_)
  refine Z.j_app (by repeat (first | exact Z.App.nil | apply Z.App.cons)) ?_
  refine Z.j_seq ?_
  refine Z.j_region ?_
  refine Z.s_val (Z.pv_assign rfl) ?_
  refine Z.j_nil ?_
  refine Z.j_then ?_
  refine Z.j_seq ?_
  refine Z.j_seq ?_
  refine Z.j_region ?_
  refine Z.s_val (Z.pv_move rfl) ?_
  refine Z.s_val (Z.pv_geq rfl rfl) ?_
  refine Z.j_nil ?_
  refine Z.j_then ?_
  refine Z.j_cond rfl (fun hc4 => ?_) (fun hc4 => ?_)
  · exfalso; first | (cases hc4; done) | (simp at hc4; done) | (simp at hc4; omega)
  · try (with_reducible first | replace hc4 := of_decide_eq_true hc4 | replace hc4 := of_decide_eq_false hc4 | replace hc4 := Z.nd_true hc4 | replace hc4 := Z.nd_false hc4 | replace hc4 := Z.nn_true hc4 | replace hc4 := Z.nn_false hc4 | replace hc4 := Z.nb_true hc4 | replace hc4 := Z.nb_false hc4)
    first
    | (exfalso; first | (cases hc4; done) | omega)
    | skip
      refine Z.j_skip ?_
      refine Z.j_then ?_
      refine Z.j_seq ?_
      refine Z.j_seq ?_
      refine Z.j_region ?_
      refine Z.s_val (Z.pv_move rfl) ?_
      refine Z.s_val (Z.pv_geq rfl rfl) ?_
      refine Z.j_nil ?_
      refine Z.j_then ?_
      refine Z.j_cond rfl (fun hc8 => ?_) (fun hc8 => ?_)
      · exfalso; first | (cases hc8; done) | (simp at hc8; done) | (simp at hc8; omega)
      · try (with_reducible first | replace hc8 := of_decide_eq_true hc8 | replace hc8 := of_decide_eq_false hc8 | replace hc8 := Z.nd_true hc8 | replace hc8 := Z.nd_false hc8 | replace hc8 := Z.nn_true hc8 | replace hc8 := Z.nn_false hc8 | replace hc8 := Z.nb_true hc8 | replace hc8 := Z.nb_false hc8)
        first
        | (exfalso; first | (cases hc8; done) | omega)
        | skip
          refine Z.j_skip ?_
          refine Z.j_then ?_
          refine Z.j_seq ?_
          refine Z.j_seq ?_
          refine Z.j_region ?_
          refine Z.s_val (Z.pv_move rfl) ?_
          refine Z.s_val (Z.pv_geq rfl rfl) ?_
          refine Z.j_nil ?_
          refine Z.j_then ?_
          refine Z.j_cond rfl (fun hc14 => ?_) (fun hc14 => ?_)
          · exfalso; first | (cases hc14; done) | (simp at hc14; done) | (simp at hc14; omega)
          · try (with_reducible first | replace hc14 := of_decide_eq_true hc14 | replace hc14 := of_decide_eq_false hc14 | replace hc14 := Z.nd_true hc14 | replace hc14 := Z.nd_false hc14 | replace hc14 := Z.nn_true hc14 | replace hc14 := Z.nn_false hc14 | replace hc14 := Z.nb_true hc14 | replace hc14 := Z.nb_false hc14)
            first
            | (exfalso; first | (cases hc14; done) | omega)
            | skip
              refine Z.j_skip ?_
              refine Z.j_then ?_
              refine Z.j_seq ?_
              refine Z.j_region ?_
              refine Z.s_val (Z.pv_move rfl) ?_
              refine Z.s_val (Z.pv_move rfl) ?_
              refine Z.s_val (Z.pv_conv rfl Try.underlying31 rfl Try.underlying5 (by first | exact IntWalk.u8_in _ (by omega) | rfl)) ?_
              refine Z.s_indexS rfl rfl (by omega) Try.underlying9 (Nat.lt_of_lt_of_le (m := 256) (by omega) (by decide)) (fun c22 => ?_)
              have hc22 := c22.toNat_lt
              refine Z.s_val (Z.pv_conv rfl Try.underlying5 rfl Try.underlying3 (by first | exact IntWalk.i64_in _ (by omega) | rfl)) ?_
              refine Z.s_val (Z.pv_add rfl rfl (by first | exact IntWalk.i64_in _ (by omega) | rfl)) ?_
              refine Z.s_val (Z.pv_assign rfl) ?_
              refine Z.j_nil ?_
              refine Z.j_then ?_
              refine Z.j_ret ?_
              refine Z.j_done_ret (Z.rv1 (Z.rv_tmp (t := 2) rfl)) ?_
              exact Z.post_of ⟨_, rfl, rfl⟩ (by repeat (first | with_reducible exact Z.Takes.nil | (apply Z.Takes.cons; (repeat (first | with_reducible exact Z.Take.here | apply Z.Take.there))))) (by repeat (first | with_reducible exact Z.Drop.nil | apply Z.Drop.cons))

set_option maxHeartbeats 4000000 in
set_option maxRecDepth 100000 in
theorem blen_spec (w0 : World) (x : Int) (h0 : 0 ≤ x) (h1 : x ≤ 12) : Z.Fn Try.prog w0 30 [.int .u64 x] [] (fun v Q => ∃ r, v = .int .i64 r ∧ Q = []) := by
  refine Z.fn_enter (n := 8) Try.func30 rfl (by rfl) (by rfl) (fun Fr => ?_)
  refine Z.j_app (by repeat (first | exact Z.App.nil | apply Z.App.cons)) ?_
  refine Z.j_seq ?_
  refine Z.j_region ?_
  refine Z.s_val (Z.pv_assign rfl) ?_
  refine Z.j_nil ?_
  refine Z.j_then ?_
  refine Z.j_seq ?_
  refine Z.j_cond rfl (fun hcNone => ?_) (fun hcNone => ?_)
  · exfalso; first | (cases hcNone; done) | (simp at hcNone; done) | (simp at hcNone; omega)
  · try (with_reducible first | replace hcNone := of_decide_eq_true hcNone | replace hcNone := of_decide_eq_false hcNone | replace hcNone := Z.nd_true hcNone | replace hcNone := Z.nd_false hcNone | replace hcNone := Z.nn_true hcNone | replace hcNone := Z.nn_false hcNone | replace hcNone := Z.nb_true hcNone | replace hcNone := Z.nb_false hcNone)
    first
    | (exfalso; first | (cases hcNone; done) | omega)
    | skip
      refine Z.j_skip ?_
      refine Z.j_then ?_
      refine Z.j_seq ?_
      refine Z.j_region ?_
      refine Z.s_val (Z.pv_move rfl) ?_
      refine Z.s_call rfl rfl rfl isFn41 (by repeat (first | with_reducible exact Z.Takes.nil | (apply Z.Takes.cons; (repeat (first | with_reducible exact Z.Take.here | apply Z.Take.there))))) (len64_spec _ _ (by omega) (by omega)) ?_
      rintro _ _ ⟨r41, rfl, rfl⟩
      refine Z.j_app (by repeat (first | exact Z.App.nil | apply Z.App.cons)) ?_
      refine Z.s_val (Z.pv_assign rfl) ?_
      refine Z.j_nil ?_
      refine Z.j_then ?_
      refine Z.j_ret ?_
      refine Z.j_done_ret (Z.rv1 (Z.rv_tmp (t := 2) rfl)) ?_
      exact Z.post_of ⟨_, rfl, rfl⟩ (by repeat (first | with_reducible exact Z.Takes.nil | (apply Z.Takes.cons; (repeat (first | with_reducible exact Z.Take.here | apply Z.Take.there))))) (by repeat (first | with_reducible exact Z.Drop.nil | apply Z.Drop.cons))

set_option maxHeartbeats 4000000 in
set_option maxRecDepth 100000 in
theorem pdq0_spec (w0 : World) (p : Option Addr) (cap : Nat) (lim : Int) : Z.FnD Try.prog w0 29 [.slice p 0 cap, .int .i64 0, .int .i64 0, .int .i64 lim] [] (.tuple #[]) [] := by
  refine Z.Fn.fnD ?_
  refine Z.fn_enter (n := 134) Try.func29 rfl (by rfl) (by rfl) (fun Fr => ?_)
  refine Z.j_app (by repeat (first | exact Z.App.nil | apply Z.App.cons)) ?_
  refine Z.j_seq ?_
  refine Z.j_region ?_
  refine Z.s_val (Z.pv_assign rfl) ?_
  refine Z.j_nil ?_
  refine Z.j_then ?_
  refine Z.j_seq ?_
  refine Z.j_region ?_
  refine Z.s_val (Z.pv_assign rfl) ?_
  refine Z.j_nil ?_
  refine Z.j_then ?_
  refine Z.j_block ?_
  refine Z.j_initF (E' := [(0, .slice p 0 cap), (1, .int .i64 0), (2, .int .i64 0)]) (As := []) (Fr := Fr) (by repeat (first | exact trivial | refine ⟨rfl, ?_⟩)) (by repeat (first | with_reducible exact Z.Takes.nil | (apply Z.Takes.cons; (repeat (first | with_reducible exact Z.Take.here | apply Z.Take.there))))) (by repeat (first | with_reducible exact Z.Drop.nil | apply Z.Drop.cons)) ?_
  refine Z.j_loop (X := { x : (Unit) // True }) (fun (x : { x : (Unit) // True }) => [(0, .slice p 0 cap), (1, .int .i64 0), (2, .int .i64 0)]) (fun x => (fun (x : { x : (Unit) // True }) => []) x ++ Fr) (fun (x : { x : (Unit) // True }) => 0) ⟨(()), trivial⟩ (fun x => ?_)
  obtain ⟨u, hinv⟩ := x
  have hinv' : True := hinv
  obtain _ := hinv'
  show Z.J _ _ _ ([(0, .slice p 0 cap), (1, .int .i64 0), (2, .int .i64 0)]) ([] ++ Fr) _
  refine Z.j_app (by repeat (first | exact Z.App.nil | apply Z.App.cons)) ?_
  refine Z.j_block ?_
  refine Z.j_seq ?_
  refine Z.j_region ?_
  refine Z.s_val (Z.pv_move rfl) ?_
  refine Z.s_val (Z.pv_move rfl) ?_
  refine Z.s_val (Z.pv_sub rfl rfl (by first | exact IntWalk.i64_in _ (by omega) | rfl)) ?_
  refine Z.s_val (Z.pv_assign rfl) ?_
  refine Z.j_nil ?_
  refine Z.j_then ?_
  refine Z.j_seq ?_
  refine Z.j_seq ?_
  refine Z.j_region ?_
  refine Z.s_val (Z.pv_move rfl) ?_
  refine Z.s_val (Z.pv_leq rfl rfl) ?_
  refine Z.j_nil ?_
  refine Z.j_then ?_
  refine Z.j_cond rfl (fun hc23 => ?_) (fun hc23 => ?_)
  · try (with_reducible first | replace hc23 := of_decide_eq_true hc23 | replace hc23 := of_decide_eq_false hc23 | replace hc23 := Z.nd_true hc23 | replace hc23 := Z.nd_false hc23 | replace hc23 := Z.nn_true hc23 | replace hc23 := Z.nn_false hc23 | replace hc23 := Z.nb_true hc23 | replace hc23 := Z.nb_false hc23)
    first
    | (exfalso; first | (cases hc23; done) | omega)
    | skip
      refine Z.j_seq ?_
      refine Z.j_region ?_
      refine Z.s_val (Z.pv_move rfl) ?_
      refine Z.s_val (Z.pv_move rfl) ?_
      refine Z.s_val (Z.pv_move rfl) ?_
      refine Z.s_callD rfl rfl rfl isFn31 (by repeat (first | with_reducible exact Z.Takes.nil | (apply Z.Takes.cons; (repeat (first | with_reducible exact Z.Take.here | apply Z.Take.there))))) (by repeat (first | exact Z.App.nil | apply Z.App.cons)) (ins0_spec _ _ _) ?_
      refine Z.j_nil ?_
      refine Z.j_then ?_
      refine Z.j_ret ?_
      refine Z.j_then_ret ?_
      refine Z.j_blk_ret ?_
      refine Z.j_then_ret ?_
      refine Z.j_blk_ret ?_
      refine Z.j_done_ret Z.rv0 ?_
      exact Z.post_of ⟨rfl, rfl⟩ (by repeat (first | with_reducible exact Z.Takes.nil | (apply Z.Takes.cons; (repeat (first | with_reducible exact Z.Take.here | apply Z.Take.there))))) (by repeat (first | with_reducible exact Z.Drop.nil | apply Z.Drop.cons))
  · exfalso; first | (cases hc23; done) | (simp at hc23; done) | (simp at hc23; omega)

set_option maxHeartbeats 4000000 in
set_option maxRecDepth 100000 in
theorem pdq1_spec (w0 : World) (db n cap : Nat) (l0 : List Int) (sp : List Value) (lim : Int) (hn : l0.length = n) (hn12 : n ≤ 12) (hn0 : 0 < n) : Z.FnD Try.prog w0 29 [.slice (some ⟨db, 0, none⟩) n cap, .int .i64 0, .int .i64 n, .int .i64 lim] [Z.cl db 31 (u64s l0 ++ sp)] (.tuple #[]) [Z.cl db 31 (u64s (sortL l0) ++ sp)] := by
  refine Z.Fn.fnD ?_
  refine Z.fn_enter (n := 134) Try.func29 rfl (by rfl) (by rfl) (fun Fr => ?_)
  refine Z.j_app (by repeat (first | exact Z.App.nil | apply Z.App.cons)) ?_
  refine Z.j_seq ?_
  refine Z.j_region ?_
  refine Z.s_val (Z.pv_assign rfl) ?_
  refine Z.j_nil ?_
  refine Z.j_then ?_
  refine Z.j_seq ?_
  refine Z.j_region ?_
  refine Z.s_val (Z.pv_assign rfl) ?_
  refine Z.j_nil ?_
  refine Z.j_then ?_
  refine Z.j_block ?_
  refine Z.j_initF (E' := [(0, .slice (some ⟨db, 0, none⟩) n cap), (1, .int .i64 0), (2, .int .i64 n)]) (As := [Z.cl db 31 (u64s l0 ++ sp)]) (Fr := Fr) (by repeat (first | exact trivial | refine ⟨rfl, ?_⟩)) (by repeat (first | with_reducible exact Z.Takes.nil | (apply Z.Takes.cons; (repeat (first | with_reducible exact Z.Take.here | apply Z.Take.there))))) (by repeat (first | with_reducible exact Z.Drop.nil | apply Z.Drop.cons)) ?_
  refine Z.j_loop (X := { x : (Unit) // True }) (fun (x : { x : (Unit) // True }) => [(0, .slice (some ⟨db, 0, none⟩) n cap), (1, .int .i64 0), (2, .int .i64 n)]) (fun x => (fun (x : { x : (Unit) // True }) => [Z.cl db 31 (u64s l0 ++ sp)]) x ++ Fr) (fun (x : { x : (Unit) // True }) => 0) ⟨(()), trivial⟩ (fun x => ?_)
  obtain ⟨u, hinv⟩ := x
  have hinv' : True := hinv
  obtain _ := hinv'
  show Z.J _ _ _ ([(0, .slice (some ⟨db, 0, none⟩) n cap), (1, .int .i64 0), (2, .int .i64 n)]) ([Z.cl db 31 (u64s l0 ++ sp)] ++ Fr) _
  refine Z.j_app (by repeat (first | exact Z.App.nil | apply Z.App.cons)) ?_
  refine Z.j_block ?_
  refine Z.j_seq ?_
  refine Z.j_region ?_
  refine Z.s_val (Z.pv_move rfl) ?_
  refine Z.s_val (Z.pv_move rfl) ?_
  refine Z.s_val (Z.pv_sub rfl rfl (by first | exact IntWalk.i64_in _ (by omega) | rfl)) ?_
  refine Z.s_val (Z.pv_assign rfl) ?_
  refine Z.j_nil ?_
  refine Z.j_then ?_
  refine Z.j_seq ?_
  refine Z.j_seq ?_
  refine Z.j_region ?_
  refine Z.s_val (Z.pv_move rfl) ?_
  refine Z.s_val (Z.pv_leq rfl rfl) ?_
  refine Z.j_nil ?_
  refine Z.j_then ?_
  refine Z.j_cond rfl (fun hc23 => ?_) (fun hc23 => ?_)
  · try (with_reducible first | replace hc23 := of_decide_eq_true hc23 | replace hc23 := of_decide_eq_false hc23 | replace hc23 := Z.nd_true hc23 | replace hc23 := Z.nd_false hc23 | replace hc23 := Z.nn_true hc23 | replace hc23 := Z.nn_false hc23 | replace hc23 := Z.nb_true hc23 | replace hc23 := Z.nb_false hc23)
    first
    | (exfalso; first | (cases hc23; done) | omega)
    | skip
      refine Z.j_seq ?_
      refine Z.j_region ?_
      refine Z.s_val (Z.pv_move rfl) ?_
      refine Z.s_val (Z.pv_move rfl) ?_
      refine Z.s_val (Z.pv_move rfl) ?_
      refine Z.s_callD rfl rfl rfl isFn31 (by repeat (first | with_reducible exact Z.Takes.nil | (apply Z.Takes.cons; (repeat (first | with_reducible exact Z.Take.here | apply Z.Take.there))))) (by repeat (first | exact Z.App.nil | apply Z.App.cons)) (ins1_spec _ db n cap l0 sp hn hn12 hn0) ?_
      refine Z.j_nil ?_
      refine Z.j_then ?_
      refine Z.j_ret ?_
      refine Z.j_then_ret ?_
      refine Z.j_blk_ret ?_
      refine Z.j_then_ret ?_
      refine Z.j_blk_ret ?_
      refine Z.j_done_ret Z.rv0 ?_
      exact Z.post_of ⟨rfl, rfl⟩ (by repeat (first | with_reducible exact Z.Takes.nil | (apply Z.Takes.cons; (repeat (first | with_reducible exact Z.Take.here | apply Z.Take.there))))) (by repeat (first | with_reducible exact Z.Drop.nil | apply Z.Drop.cons))
  · exfalso; first | (cases hc23; done) | (simp at hc23; done) | (simp at hc23; omega)


theorem pdq_spec (w0 : World) (v : Value) (n : Nat) (l : List Int) (lim : Int) (hn : l.length = n) (h12 : n ≤ 12) : Z.FnD Try.prog w0 29 [v, .int .i64 0, .int .i64 n, .int .i64 lim] [Z.Own 31 1 v n (u64s l)] (.tuple #[]) [Z.Own 31 1 v n (u64s (sortL l))] := fun Fr w hs => by
  rcases hs.own with ⟨rfl, rfl, h2, h⟩ | ⟨b, cap, sp, rfl, h1, h2, h⟩
  · have := List.eq_nil_of_length_eq_zero hn; subst this
    exact (pdq0_spec w0 none 0 lim Fr w h).mono fun e w' ⟨he, h'⟩ => ⟨he, Z.St.own_nil 31 1 h'⟩
  · by_cases h0 : n = 0
    · subst h0
      have := List.eq_nil_of_length_eq_zero hn; subst this
      refine (pdq0_spec w0 (some ⟨b, 0, none⟩) cap lim (Z.cl b 31 (u64s [] ++ sp) :: Fr) w h).mono fun e w' ⟨he, h'⟩ => ⟨he, ?_⟩
      have hs0 : sortL [] = [] := rfl
      rw [hs0]
      exact h'.imp fun _ H => Z.own_mk (sp := sp) H (by simp) (by simpa using h2)
    · refine (pdq1_spec w0 b n cap l sp lim hn h12 (by omega) Fr w h).mono fun e w' ⟨he, h'⟩ => ⟨he, ?_⟩
      have hl : (sortL l).length = n := by rw [← hn]; exact (sortL_spec l).2.length_eq
      exact h'.imp fun _ H => Z.own_mk (sp := sp) H (by simp [hl]) (by simp at h2 ⊢; omega)

set_option maxHeartbeats 4000000 in
set_option maxRecDepth 100000 in
theorem sort_spec (w0 : World) (v : Value) (n : Nat) (l : List Int) (hn : l.length = n) (h12 : n ≤ 12) : Z.FnD Try.prog w0 26 [v] [Z.Own 31 1 v n (u64s l)] (.tuple #[]) [Z.Own 31 1 v n (u64s (sortL l))] := by
  refine Z.Fn.fnD ?_
  refine Z.fn_enter (n := 11) Try.func26 rfl (by rfl) (by rfl) (fun Fr => ?_)
  refine Z.j_app (by repeat (first | exact Z.App.nil | apply Z.App.cons)) ?_
  refine Z.j_seq ?_
  refine Z.j_region ?_
  refine Z.s_val (Z.pv_move rfl) ?_
  refine Z.s_val (Z.pv_lenO rfl (by repeat (first | with_reducible exact Z.Take.here | apply Z.Take.there)) Try.underlying42) ?_
  refine Z.s_val (Z.pv_assign rfl) ?_
  refine Z.j_nil ?_
  refine Z.j_then ?_
  refine Z.j_region ?_
  refine Z.s_val (Z.pv_move rfl) ?_
  refine Z.s_val (Z.pv_move rfl) ?_
  refine Z.s_val (Z.pv_move rfl) ?_
  refine Z.s_val (Z.pv_conv rfl Try.underlying3 rfl Try.underlying74 (by first | exact IntWalk.u64_in _ (by omega) | rfl)) ?_
  refine Z.s_call rfl rfl rfl isFn30 (by repeat (first | with_reducible exact Z.Takes.nil | (apply Z.Takes.cons; (repeat (first | with_reducible exact Z.Take.here | apply Z.Take.there))))) (blen_spec _ _ (by omega) (by omega)) ?_
  rintro _ _ ⟨r30, rfl, rfl⟩
  refine Z.j_app (by repeat (first | exact Z.App.nil | apply Z.App.cons)) ?_
  refine Z.s_callD rfl rfl rfl isFn29 (by repeat (first | with_reducible exact Z.Takes.nil | (apply Z.Takes.cons; (repeat (first | with_reducible exact Z.Take.here | apply Z.Take.there))))) (by repeat (first | exact Z.App.nil | apply Z.App.cons)) (pdq_spec _ _ _ _ _ hn h12) ?_
  refine Z.j_nil ?_
  refine Z.j_done Z.rv0 ?_
  exact Z.post_of ⟨rfl, rfl⟩ (by repeat (first | with_reducible exact Z.Takes.nil | (apply Z.Takes.cons; (repeat (first | with_reducible exact Z.Take.here | apply Z.Take.there))))) (by repeat (first | with_reducible exact Z.Drop.nil | apply Z.Drop.cons))

set_option maxHeartbeats 4000000 in
set_option maxRecDepth 100000 in
theorem keys1_spec (w0 : World) (b1 mb : Nat) (m : M) (l : Nat) (A : List Int → Z.SP) (hY : ∀ pre x, okK (keys m) (pre ++ [x]) → Z.YFn Try.prog w0 l [.int .u64 x] [A pre] [A (pre ++ [x])]) : Z.Fn Try.prog w0 27 [.func (.yield l) #[] #[], .pointer (some ⟨b1, 0, none⟩)] [Z.cl b1 52 [.map (some mb)], Z.MapP mb (Value.int .u64) Sess.e m, A []] (fun _ Q => ∃ xs, xs.Perm (keys m) ∧ Q = [Z.cl b1 52 [.map (some mb)], Z.MapP mb (Value.int .u64) Sess.e m, A xs]) := by
  refine Z.fn_enter (n := 14) Try.func27 rfl (by rfl) (by rfl) (fun Fr => ?_)
  refine Z.j_app (by repeat (first | exact Z.App.nil | apply Z.App.cons)) ?_
  refine Z.j_seq ?_
  refine Z.j_region ?_
  refine Z.s_val (Z.pv_load1 rfl (by repeat (first | with_reducible exact Z.Take.here | apply Z.Take.there)) Try.isAgg52 (by rfl)) ?_
  refine Z.s_range rfl Try.underlying52 (by repeat (first | with_reducible exact Z.Take.here | apply Z.Take.there)) (fun r5 bs5 clock5 hk5 => ?_)
  refine Z.j_nil ?_
  refine Z.j_then ?_
  refine Z.j_block ?_
  have hz2 : ((m.zip bs5).map (·.2)).Nodup := by rw [Z.zip_snd hk5.1]; exact hk5.2.1
  refine Z.j_initF (E' := [(0, .func (.yield l) #[] #[]), (5, .pointer (some ⟨r5, 0, none⟩))]) (As := [Z.It r5 mb clock5 (#[]), Z.MapB mb (Value.int .u64) Sess.e m bs5 clock5, Z.cl b1 52 [.map (some mb)], A ([])]) (Fr := Fr) (by repeat (first | exact trivial | refine ⟨rfl, ?_⟩)) (by repeat (first | with_reducible exact Z.Takes.nil | (apply Z.Takes.cons; (repeat (first | with_reducible exact Z.Take.here | apply Z.Take.there))))) (by repeat (first | with_reducible exact Z.Drop.nil | apply Z.Drop.cons)) ?_
  refine Z.j_loop (X := { x : (Array Nat) × (List Int) // (x.2).Perm (seenK (m.zip bs5) (x.1)) }) (fun (x : { x : (Array Nat) × (List Int) // (x.2).Perm (seenK (m.zip bs5) (x.1)) }) => [(0, .func (.yield l) #[] #[]), (5, .pointer (some ⟨r5, 0, none⟩))]) (fun x => (fun (x : { x : (Array Nat) × (List Int) // (x.2).Perm (seenK (m.zip bs5) (x.1)) }) => [Z.It r5 mb clock5 (x.1.1), Z.MapB mb (Value.int .u64) Sess.e m bs5 clock5, Z.cl b1 52 [.map (some mb)], A (x.1.2)]) x ++ Fr) (fun (x : { x : (Array Nat) × (List Int) // (x.2).Perm (seenK (m.zip bs5) (x.1)) }) => Z.mleft bs5 (x.1.1)) ⟨(#[], []), by rw [seenK_nil]⟩ (fun x => ?_)
  obtain ⟨⟨seen, pre⟩, hinv⟩ := x
  have hinv' : pre.Perm (seenK (m.zip bs5) seen) := hinv
  have hpre := hinv'
  show Z.J _ _ _ ([(0, .func (.yield l) #[] #[]), (5, .pointer (some ⟨r5, 0, none⟩))]) ([Z.It r5 mb clock5 seen, Z.MapB mb (Value.int .u64) Sess.e m bs5 clock5, Z.cl b1 52 [.map (some mb)], A pre] ++ Fr) _
  refine Z.j_app (by repeat (first | exact Z.App.nil | apply Z.App.cons)) ?_
  refine Z.j_seq ?_
  refine Z.j_region ?_
  refine Z.s_next rfl hk5 (by repeat (first | with_reducible exact Z.Take.here | apply Z.Take.there)) (fun _ => (by repeat (first | with_reducible exact Z.Upd.here | apply Z.Upd.there))) (fun hall6 => ?_) (fun ix6 ky6 vl6 y6 hm6 hy6 hns6 hlt6 => ?_)
  · skip
    refine Z.s_val (Z.pv_extract rfl rfl) ?_
    refine Z.j_nil ?_
    refine Z.j_then ?_
    refine Z.j_seq ?_
    refine Z.j_cond rfl (fun hc7 => ?_) (fun hc7 => ?_)
    · exfalso; first | (cases hc7; done) | (simp at hc7; done) | (simp at hc7; omega)
    · try (with_reducible first | replace hc7 := of_decide_eq_true hc7 | replace hc7 := of_decide_eq_false hc7 | replace hc7 := Z.nd_true hc7 | replace hc7 := Z.nd_false hc7 | replace hc7 := Z.nn_true hc7 | replace hc7 := Z.nn_false hc7 | replace hc7 := Z.nb_true hc7 | replace hc7 := Z.nb_false hc7)
      first
      | (exfalso; first | (cases hc7; done) | omega)
      | skip
        refine Z.j_exit ?_
        refine Z.j_then_exit ?_
        refine Z.j_then_exit ?_
        refine Z.j_blk_here rfl ?_
        refine Z.J.mapP_close (by repeat (first | with_reducible exact Z.Take.here | apply Z.Take.there)) hk5 ?_
        refine Z.j_done Z.rv0 ?_
        exact Z.post_of ⟨pre, by rw [zip_keys hk5.1, ← seenK_all (seen := seen) (by rw [Z.zip_snd hk5.1]; exact hall6)]; exact hpre, rfl⟩ (by repeat (first | with_reducible exact Z.Takes.nil | (apply Z.Takes.cons; (repeat (first | with_reducible exact Z.Take.here | apply Z.Take.there))))) (by repeat (first | with_reducible exact Z.Drop.nil | apply Z.Drop.cons))
  · skip
    refine Z.s_val (Z.pv_extract rfl rfl) ?_
    refine Z.j_nil ?_
    refine Z.j_then ?_
    refine Z.j_seq ?_
    refine Z.j_cond rfl (fun hc7 => ?_) (fun hc7 => ?_)
    · try (with_reducible first | replace hc7 := of_decide_eq_true hc7 | replace hc7 := of_decide_eq_false hc7 | replace hc7 := Z.nd_true hc7 | replace hc7 := Z.nd_false hc7 | replace hc7 := Z.nn_true hc7 | replace hc7 := Z.nn_false hc7 | replace hc7 := Z.nb_true hc7 | replace hc7 := Z.nb_false hc7)
      first
      | (exfalso; first | (cases hc7; done) | omega)
      | skip
        have hq : ((ky6, vl6), y6) ∈ m.zip bs5 := List.mem_of_getElem? (i := ix6) (List.getElem?_zip_eq_some.2 ⟨hm6, hy6⟩)
        refine Z.j_skip ?_
        refine Z.j_then ?_
        refine Z.j_block ?_
        refine Z.j_seq ?_
        refine Z.j_region ?_
        refine Z.s_val (Z.pv_entry rfl hk5 hm6 hy6 (by repeat (first | with_reducible exact Z.Take.here | apply Z.Take.there)) (by repeat (first | with_reducible exact Z.Take.here | apply Z.Take.there))) ?_
        refine Z.s_val (Z.pv_extract rfl rfl) ?_
        refine Z.s_val (Z.pv_assign rfl) ?_
        refine Z.j_nil ?_
        refine Z.j_then ?_
        refine Z.j_seq ?_
        refine Z.j_region ?_
        refine Z.s_val (Z.pv_move rfl) ?_
        refine Z.s_val (Z.pv_move rfl) ?_
        refine Z.s_yield rfl rfl (by repeat (first | with_reducible exact Z.Takes.nil | (apply Z.Takes.cons; (repeat (first | with_reducible exact Z.Take.here | apply Z.Take.there))))) (by repeat (first | exact Z.App.nil | apply Z.App.cons)) (hY pre ky6 (seenK_ok (zip_keys hk5.1) (seenK_push hz2 hq hns6 hpre))) ?_
        refine Z.s_val (Z.pv_not rfl) ?_
        refine Z.j_nil ?_
        refine Z.j_then ?_
        refine Z.j_cond rfl (fun hc13 => ?_) (fun hc13 => ?_)
        · exfalso; first | (cases hc13; done) | (simp at hc13; done) | (simp at hc13; omega)
        · try (with_reducible first | replace hc13 := of_decide_eq_true hc13 | replace hc13 := of_decide_eq_false hc13 | replace hc13 := Z.nd_true hc13 | replace hc13 := Z.nd_false hc13 | replace hc13 := Z.nn_true hc13 | replace hc13 := Z.nn_false hc13 | replace hc13 := Z.nb_true hc13 | replace hc13 := Z.nb_false hc13)
          first
          | (exfalso; first | (cases hc13; done) | omega)
          | skip
            refine Z.j_skip ?_
            refine Z.j_blk ?_
            refine Z.j_then ?_
            (refine Z.j_nextG (X := { x : (Array Nat) × (List Int) // (x.2).Perm (seenK (m.zip bs5) (x.1)) }) (EE := (fun (x : { x : (Array Nat) × (List Int) // (x.2).Perm (seenK (m.zip bs5) (x.1)) }) => [(0, .func (.yield l) #[] #[]), (5, .pointer (some ⟨r5, 0, none⟩))])) (LL := (fun (x : { x : (Array Nat) × (List Int) // (x.2).Perm (seenK (m.zip bs5) (x.1)) }) => [Z.It r5 mb clock5 (x.1.1), Z.MapB mb (Value.int .u64) Sess.e m bs5 clock5, Z.cl b1 52 [.map (some mb)], A (x.1.2)])) (μ := (fun (x : { x : (Array Nat) × (List Int) // (x.2).Perm (seenK (m.zip bs5) (x.1)) }) => Z.mleft bs5 (x.1.1))) (x := ⟨(seen, pre), hinv⟩) ⟨(seen.push y6, pre ++ [ky6]), seenK_push hz2 hq hns6 hpre⟩ ?_ ?_ ?_; (show Z.mleft bs5 (seen.push y6) < Z.mleft bs5 seen; omega); (exact (by repeat (first | exact trivial | refine ⟨rfl, ?_⟩))); (exact Z.st_td (by repeat (first | with_reducible exact Z.Takes.nil | (apply Z.Takes.cons; (repeat (first | with_reducible exact Z.Take.here | apply Z.Take.there))))) (by repeat (first | with_reducible exact Z.Drop.nil | apply Z.Drop.cons))))
    · exfalso; first | (cases hc7; done) | (simp at hc7; done) | (simp at hc7; omega)


theorem keys_iter (w0 : World) (b1 mb : Nat) (m : M) : Z.IterN Try.prog w0 27 [.pointer (some ⟨b1, 0, none⟩)] (fun k : Int => [.int .u64 k]) (okK (keys m)) (fun xs => xs.Perm (keys m)) [Z.cl b1 52 [.map (some mb)], Z.MapP mb (Value.int .u64) Sess.e m] [Z.cl b1 52 [.map (some mb)], Z.MapP mb (Value.int .u64) Sess.e m] :=
  fun l A hY => keys1_spec w0 b1 mb m l A hY

set_option maxHeartbeats 4000000 in
set_option maxRecDepth 100000 in
theorem appendSeq_spec (w0 : World) (b1 mb : Nat) (m : M) (hm : m.length ≤ 12) : Z.Fn Try.prog w0 28 [.slice none 0 0, .func (.func 27) #[] #[.pointer (some ⟨b1, 0, none⟩)]] [Z.cl b1 52 [.map (some mb)], Z.MapP mb (Value.int .u64) Sess.e m] (fun v Q => ∃ xs, xs.Perm (keys m) ∧ Q = [Z.cl b1 52 [.map (some mb)], Z.MapP mb (Value.int .u64) Sess.e m, Z.Own 31 1 v xs.length (u64s xs)]) := by
  refine Z.fn_enterM (n := 13) Try.func28 rfl (by rfl) (by rfl) (fun Fr => ?_)
  refine Z.j_app (by repeat (first | exact Z.App.nil | apply Z.App.cons)) ?_
  refine Z.j_seq ?_
  refine Z.j_region ?_
  refine Z.s_box1 rfl rfl (fun b2 => ?_)
  refine Z.s_val (Z.pv_assign rfl) ?_
  refine Z.j_nil ?_
  refine Z.j_then ?_
  refine Z.j_seq ?_
  refine Z.j_seq ?_
  refine Z.j_region ?_
  refine Z.s_val (Z.pv_move rfl) ?_
  refine Z.j_nil ?_
  refine Z.j_then ?_
  refine Z.j_block ?_
  refine Z.J.own_nil 31 1 ?_
  refine Z.j_fold (A := SLp b2 []) (As := [Z.cl b2 42 [.slice none 0 0], Z.Own 31 1 (.slice none 0 0) 0 []]) (by repeat (first | with_reducible exact Z.Takes.nil | (apply Z.Takes.cons; (repeat (first | with_reducible exact Z.Take.here | apply Z.Take.there))))) (fun _ H => ⟨_, H⟩) ?_
  refine Z.j_rangeFuncN (enc := (fun k : Int => [Value.int .u64 k])) (fun pre => [SLp b2 pre]) (fun pre x => [(2, .pointer (some ⟨b2, 0, none⟩)), (5, .int .u64 x)]) (fun pre x => [SLp b2 pre]) rfl isFn27 (fun _ => rfl) (by decide) (by repeat (first | with_reducible exact Z.Takes.nil | (apply Z.Takes.cons; (repeat (first | with_reducible exact Z.Take.here | apply Z.Take.there))))) (keys_iter w0 b1 mb m) (fun l0 pre x Fr0 hx0 => ?_) (fun l0 pre x Fr0 hx0 => ?_) (fun xs hfs0 bk0 => ?_)
  · show Z.J _ _ _ _ ([SLp b2 pre] ++ Fr0) _
    refine Z.j_app (by repeat (first | exact Z.App.nil | apply Z.App.cons)) ?_
    refine Z.j_region ?_
    refine Z.s_val (Z.pv_assign rfl) ?_
    refine Z.j_nil ?_
    refine Z.j_then ?_
    exact Z.j_assigned (by repeat (first | exact trivial | refine ⟨rfl, ?_⟩)) (by repeat (first | with_reducible exact Z.Takes.nil | (apply Z.Takes.cons; (repeat (first | with_reducible exact Z.Take.here | apply Z.Take.there))))) (by repeat (first | with_reducible exact Z.Drop.nil | apply Z.Drop.cons))
  · show Z.J _ _ _ ([(2, .pointer (some ⟨b2, 0, none⟩)), (5, .int .u64 x)]) ([SLp b2 pre] ++ Fr0) _
    refine Z.j_app (by repeat (first | exact Z.App.nil | apply Z.App.cons)) ?_
    have hln := hx0.len
    simp [keys] at hln
    refine Z.j_open (A := SLp b2 pre) (by repeat (first | with_reducible exact Z.Take.here | apply Z.Take.there)) (fun _ H => H) (fun v => ?_)
    refine Z.j_app (by repeat (first | exact Z.App.nil | apply Z.App.cons)) ?_
    refine Z.j_block ?_
    refine Z.j_region ?_
    refine Z.s_val (Z.pv_load1 rfl (by repeat (first | with_reducible exact Z.Take.here | apply Z.Take.there)) Try.isAgg42 (by rfl)) ?_
    refine Z.s_val (Z.pv_move rfl) ?_
    refine Z.s_buildSlice rfl Try.underlying42 Try.zeroValue31 Try.sizeOf31 rfl rfl rfl rfl (fun b10 => ?_)
    refine Z.s_append (k := 1) (by' := 8) rfl rfl (by repeat (first | with_reducible exact Z.Take.here | apply Z.Take.there)) (Z.reads_cl (by repeat (first | with_reducible exact Z.Take.here | apply Z.Take.there)) (k := 1) (by rfl)) Try.underlying42 Try.typeInfo31 rfl rfl rfl rfl rfl rfl (.inl (by omega)) (by omega) (by omega) (fun v11 hv11 => ?_)
    refine Z.s_store1 rfl rfl (by first | rfl | assumption) Try.sizeOf42 (by repeat (first | with_reducible exact Z.Upd.here | apply Z.Upd.there)) (by rfl) ?_
    refine Z.j_nil ?_
    refine Z.j_blk ?_
    refine Z.j_fold (A := SLp b2 (pre ++ [x])) (As := [Z.cl b2 42 [v11], Z.Own 31 1 v11 (pre.length + 1) (u64s pre ++ [.int .u64 x])]) (by repeat (first | with_reducible exact Z.Takes.nil | (apply Z.Takes.cons; (repeat (first | with_reducible exact Z.Take.here | apply Z.Take.there))))) (fun _ H => ⟨v11, by simpa [u64s] using H⟩) ?_
    exact Z.j_rp (by repeat (first | with_reducible exact Z.Takes.nil | (apply Z.Takes.cons; (repeat (first | with_reducible exact Z.Take.here | apply Z.Take.there))))) (by repeat (first | with_reducible exact Z.Drop.nil | apply Z.Drop.cons))
  · refine Z.j_app2 (by repeat (first | exact Z.App.nil | apply Z.App.cons)) (by repeat (first | exact Z.App.nil | apply Z.App.cons)) ?_
    refine Z.j_open (A := SLp b2 xs) (by repeat (first | with_reducible exact Z.Take.here | apply Z.Take.there)) (fun _ H => H) (fun v => ?_)
    refine Z.j_app (by repeat (first | exact Z.App.nil | apply Z.App.cons)) ?_
    refine Z.j_blk ?_
    refine Z.j_then ?_
    refine Z.j_seq ?_
    refine Z.j_region ?_
    refine Z.s_val (Z.pv_load1 rfl (by repeat (first | with_reducible exact Z.Take.here | apply Z.Take.there)) Try.isAgg42 (by rfl)) ?_
    refine Z.s_val (Z.pv_assign rfl) ?_
    refine Z.j_nil ?_
    refine Z.j_then ?_
    refine Z.j_ret ?_
    refine Z.j_doneM_ret (bs := [bk0]) (.cons (by repeat (first | with_reducible exact Z.Take.here | apply Z.Take.there)) .nil) (Z.rv1 (Z.rv_tmp (t := 4) rfl)) ?_
    exact Z.post_of ⟨xs, hfs0, rfl⟩ (by repeat (first | with_reducible exact Z.Takes.nil | (apply Z.Takes.cons; (repeat (first | with_reducible exact Z.Take.here | apply Z.Take.there))))) (by repeat (first | with_reducible exact Z.Drop.nil | apply Z.Drop.cons))

set_option maxHeartbeats 4000000 in
set_option maxRecDepth 100000 in
theorem collect_spec (w0 : World) (b1 mb : Nat) (m : M) (hm : m.length ≤ 12) : Z.Fn Try.prog w0 25 [.func (.func 27) #[] #[.pointer (some ⟨b1, 0, none⟩)]] [Z.cl b1 52 [.map (some mb)], Z.MapP mb (Value.int .u64) Sess.e m] (fun v Q => ∃ xs, xs.Perm (keys m) ∧ Q = [Z.cl b1 52 [.map (some mb)], Z.MapP mb (Value.int .u64) Sess.e m, Z.Own 31 1 v xs.length (u64s xs)]) := by
  refine Z.fn_enter (n := 5) Try.func25 rfl (by rfl) (by rfl) (fun Fr => ?_)
  refine Z.j_app (by repeat (first | exact Z.App.nil | apply Z.App.cons)) ?_
  refine Z.j_seq ?_
  refine Z.j_region ?_
  refine Z.s_val (Z.pv_assign rfl) ?_
  refine Z.j_nil ?_
  refine Z.j_then ?_
  refine Z.j_seq ?_
  refine Z.j_region ?_
  refine Z.s_val (Z.pv_move rfl) ?_
  refine Z.s_call rfl rfl rfl isFn28 (by repeat (first | with_reducible exact Z.Takes.nil | (apply Z.Takes.cons; (repeat (first | with_reducible exact Z.Take.here | apply Z.Take.there))))) (appendSeq_spec _ b1 mb m (by omega)) ?_
  rintro v4 _ ⟨xs, hxs, rfl⟩
  refine Z.j_app (by repeat (first | exact Z.App.nil | apply Z.App.cons)) ?_
  refine Z.s_val (Z.pv_assign rfl) ?_
  refine Z.j_nil ?_
  refine Z.j_then ?_
  refine Z.j_ret ?_
  refine Z.j_done_ret (Z.rv1 (Z.rv_tmp (t := 2) rfl)) ?_
  exact Z.post_of ⟨xs, hxs, rfl⟩ (by repeat (first | with_reducible exact Z.Takes.nil | (apply Z.Takes.cons; (repeat (first | with_reducible exact Z.Take.here | apply Z.Take.there))))) (by repeat (first | with_reducible exact Z.Drop.nil | apply Z.Drop.cons))

set_option maxHeartbeats 4000000 in
set_option maxRecDepth 100000 in
theorem sorted_spec (w0 : World) (b1 mb : Nat) (m : M) (hm : m.length ≤ 12) : Z.Fn Try.prog w0 23 [.func (.func 27) #[] #[.pointer (some ⟨b1, 0, none⟩)]] [Z.cl b1 52 [.map (some mb)], Z.MapP mb (Value.int .u64) Sess.e m] (fun v Q => Q = [Z.cl b1 52 [.map (some mb)], Z.MapP mb (Value.int .u64) Sess.e m, Z.Own 31 1 v m.length (u64s (sortL (keys m)))]) := by
  refine Z.fn_enter (n := 9) Try.func23 rfl (by rfl) (by rfl) (fun Fr => ?_)
  refine Z.j_app (by repeat (first | exact Z.App.nil | apply Z.App.cons)) ?_
  refine Z.j_seq ?_
  refine Z.j_region ?_
  refine Z.s_val (Z.pv_assign rfl) ?_
  refine Z.j_nil ?_
  refine Z.j_then ?_
  refine Z.j_seq ?_
  refine Z.j_region ?_
  refine Z.s_val (Z.pv_move rfl) ?_
  refine Z.s_call rfl rfl rfl isFn25 (by repeat (first | with_reducible exact Z.Takes.nil | (apply Z.Takes.cons; (repeat (first | with_reducible exact Z.Take.here | apply Z.Take.there))))) (collect_spec _ b1 mb m (by omega)) ?_
  rintro v5 _ ⟨xs, hxs, rfl⟩
  have hl : xs.length = m.length := by rw [hxs.length_eq]; simp [keys]
  refine Z.j_app (by repeat (first | exact Z.App.nil | apply Z.App.cons)) ?_
  refine Z.s_val (Z.pv_assign rfl) ?_
  refine Z.j_nil ?_
  refine Z.j_then ?_
  refine Z.j_seq ?_
  refine Z.j_region ?_
  refine Z.s_val (Z.pv_move rfl) ?_
  refine Z.s_callD rfl rfl rfl isFn26 (by repeat (first | with_reducible exact Z.Takes.nil | (apply Z.Takes.cons; (repeat (first | with_reducible exact Z.Take.here | apply Z.Take.there))))) (by repeat (first | exact Z.App.nil | apply Z.App.cons)) (sort_spec _ _ _ xs rfl (by omega)) ?_
  refine Z.j_nil ?_
  refine Z.j_then ?_
  refine Z.j_seq ?_
  refine Z.j_region ?_
  refine Z.s_val (Z.pv_move rfl) ?_
  refine Z.s_val (Z.pv_assign rfl) ?_
  refine Z.j_nil ?_
  refine Z.j_then ?_
  refine Z.j_ret ?_
  refine Z.j_done_ret (Z.rv1 (Z.rv_tmp (t := 2) rfl)) ?_
  exact Z.post_of (Qs := [Z.cl b1 52 [.map (some mb)], Z.MapP mb (Value.int .u64) Sess.e m, Z.Own 31 1 v5 xs.length (u64s (sortL xs))]) (by rw [sortL_perm hxs, hl]) (by repeat (first | with_reducible exact Z.Takes.nil | (apply Z.Takes.cons; (repeat (first | with_reducible exact Z.Take.here | apply Z.Take.there))))) (by repeat (first | with_reducible exact Z.Drop.nil | apply Z.Drop.cons))

set_option maxHeartbeats 4000000 in
set_option maxRecDepth 100000 in
theorem keys_spec (w0 : World) (mb : Nat) : Z.Fn Try.prog w0 24 [.map (some mb)] [] (fun v Q => ∃ b1, v = .func (.func 27) #[] #[.pointer (some ⟨b1, 0, none⟩)] ∧ Q = [Z.cl b1 52 [.map (some mb)]]) := by
  refine Z.fn_enter (n := 4) Try.func24 rfl (by rfl) (by rfl) (fun Fr => ?_)
  refine Z.j_app (by repeat (first | exact Z.App.nil | apply Z.App.cons)) ?_
  refine Z.j_seq ?_
  refine Z.j_region ?_
  refine Z.s_box1 rfl rfl (fun b1 => ?_)
  refine Z.s_val (Z.pv_assign rfl) ?_
  refine Z.j_nil ?_
  refine Z.j_then ?_
  refine Z.j_seq ?_
  refine Z.j_region ?_
  refine Z.s_val (Z.pv_func rfl rfl) ?_
  refine Z.s_val (Z.pv_assign rfl) ?_
  refine Z.j_nil ?_
  refine Z.j_then ?_
  refine Z.j_ret ?_
  refine Z.j_done_ret (Z.rv1 (Z.rv_tmp (t := 2) rfl)) ?_
  exact Z.post_of ⟨b1, rfl, rfl⟩ (by repeat (first | with_reducible exact Z.Takes.nil | (apply Z.Takes.cons; (repeat (first | with_reducible exact Z.Take.here | apply Z.Take.there))))) (by repeat (first | with_reducible exact Z.Drop.nil | apply Z.Drop.cons))

set_option maxHeartbeats 4000000 in
set_option maxRecDepth 100000 in
theorem all_spec (w0 : World) (tb : Nat) : Z.Fn Try.prog w0 20 [.pointer (some ⟨tb, 0, none⟩)] [] (fun v Q => ∃ b, v = .func (.func 22) #[] #[.pointer (some ⟨b, 0, none⟩)] ∧ Q = [Z.cl b 25 [.pointer (some ⟨tb, 0, none⟩)]]) := by
  refine Z.fn_enter (n := 4) Try.func20 rfl (by rfl) (by rfl) (fun Fr => ?_)
  refine Z.j_app (by repeat (first | exact Z.App.nil | apply Z.App.cons)) ?_
  refine Z.j_seq ?_
  refine Z.j_region ?_
  refine Z.s_box1 rfl rfl (fun b1 => ?_)
  refine Z.s_val (Z.pv_assign rfl) ?_
  refine Z.j_nil ?_
  refine Z.j_then ?_
  refine Z.j_seq ?_
  refine Z.j_region ?_
  refine Z.s_val (Z.pv_func rfl rfl) ?_
  refine Z.s_val (Z.pv_assign rfl) ?_
  refine Z.j_nil ?_
  refine Z.j_then ?_
  refine Z.j_ret ?_
  refine Z.j_done_ret (Z.rv1 (Z.rv_tmp (t := 2) rfl)) ?_
  exact Z.post_of ⟨b1, rfl, rfl⟩ (by repeat (first | with_reducible exact Z.Takes.nil | (apply Z.Takes.cons; (repeat (first | with_reducible exact Z.Take.here | apply Z.Take.there))))) (by repeat (first | with_reducible exact Z.Drop.nil | apply Z.Drop.cons))

end Go.Proofs.Ytjilnmjjehkidaa
