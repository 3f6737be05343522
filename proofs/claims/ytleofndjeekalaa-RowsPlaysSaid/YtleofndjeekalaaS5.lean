/- Rows: what is in an area. -/
import Derived.Test.YtleofndjeekalaaS4
import Derived.Test.YtleofndjeekalaaC4
import Derived.Test.YtleofndjeekalaaZt
import Derived.KernelRfl
namespace Go.Proofs.Ytleofndjeekalaa
open Go Go.RowKit
set_option maxHeartbeats 4000000 in
set_option maxRecDepth 100000 in
theorem has1_spec (w0 : World) (b3 : Nat) (lo hi k : Int) : Z.FnD Try.prog w0 45 [.agg #[.int .u32 lo, .int .u32 hi], .pointer (some ⟨b3, 0, none⟩)] [Z.cl b3 34 [.int .u32 k]] (.bool (inS ⟨lo, hi⟩ k)) [Z.cl b3 34 [.int .u32 k]] := by
  refine Z.Fn.fnD ?_
  refine Z.fn_enter (n := 14) Try.func45 rfl (by rfl) (by rfl) (fun Fr => ?_)
  refine Z.j_app (by repeat (first | exact Z.App.nil | apply Z.App.cons)) ?_
  refine Z.j_seq ?_
  refine Z.j_region ?_
  refine Z.s_box rfl (fun b2 => ?_)
  refine Z.s_val (Z.pv_assign rfl) ?_
  refine Z.j_nil ?_
  refine Z.j_then ?_
  refine Z.j_seq ?_
  refine Z.j_region ?_
  refine Z.s_val (Z.pv_fieldAddr (o' := 0) rfl Try.underlying63 rfl Try.sizeOf34 rfl) ?_
  refine Z.s_val (Z.pv_load1 rfl (by repeat (first | with_reducible exact Z.Take.here | apply Z.Take.there)) Try.isAgg34 (by rfl)) ?_
  refine Z.s_val (Z.pv_load1 rfl (by repeat (first | with_reducible exact Z.Take.here | apply Z.Take.there)) Try.isAgg34 (by rfl)) ?_
  refine Z.s_val (Z.pv_leq rfl rfl) ?_
  refine Z.s_val (Z.pv_move rfl) ?_
  refine Z.s_split 8 rfl (fun hg8 => ?_) (fun hg8 => ?_)
  · try (with_reducible first | replace hg8 := of_decide_eq_true hg8 | replace hg8 := of_decide_eq_false hg8 | replace hg8 := Z.nd_true hg8 | replace hg8 := Z.nd_false hg8 | replace hg8 := Z.nn_true hg8 | replace hg8 := Z.nn_false hg8 | replace hg8 := Z.nb_true hg8 | replace hg8 := Z.nb_false hg8)
    first
    | (exfalso; first | (cases hg8; done) | omega)
    | skip
      refine Z.s_val (Z.pv_load1 rfl (by repeat (first | with_reducible exact Z.Take.here | apply Z.Take.there)) Try.isAgg34 (by rfl)) ?_
      refine Z.s_val (Z.pv_fieldAddr (o' := 1) rfl Try.underlying63 rfl Try.sizeOf34 rfl) ?_
      refine Z.s_val (Z.pv_load1 rfl (by repeat (first | with_reducible exact Z.Take.here | apply Z.Take.there)) Try.isAgg34 (by rfl)) ?_
      refine Z.s_val (Z.pv_leq rfl rfl) ?_
      refine Z.s_val (Z.pv_pick rfl rfl) ?_
      refine Z.s_val (Z.pv_assign rfl) ?_
      refine Z.j_nil ?_
      refine Z.j_then ?_
      refine Z.j_ret ?_
      refine Z.j_done_ret (Z.rv1 (Z.rv_tmp (t := 3) rfl)) ?_
      exact Z.post_of ⟨by first | (simp [inS, *]; done) | (simp [inS, *]; omega), rfl⟩ (by repeat (first | with_reducible exact Z.Takes.nil | (apply Z.Takes.cons; (repeat (first | with_reducible exact Z.Take.here | apply Z.Take.there))))) (by repeat (first | with_reducible exact Z.Drop.nil | apply Z.Drop.cons))
  · try (with_reducible first | replace hg8 := of_decide_eq_true hg8 | replace hg8 := of_decide_eq_false hg8 | replace hg8 := Z.nd_true hg8 | replace hg8 := Z.nd_false hg8 | replace hg8 := Z.nn_true hg8 | replace hg8 := Z.nn_false hg8 | replace hg8 := Z.nb_true hg8 | replace hg8 := Z.nb_false hg8)
    first
    | (exfalso; first | (cases hg8; done) | omega)
    | skip
      refine Z.s_skip ?_
      refine Z.s_skip ?_
      refine Z.s_skip ?_
      refine Z.s_skip ?_
      refine Z.s_val (Z.pv_pick rfl rfl) ?_
      refine Z.s_val (Z.pv_assign rfl) ?_
      refine Z.j_nil ?_
      refine Z.j_then ?_
      refine Z.j_ret ?_
      refine Z.j_done_ret (Z.rv1 (Z.rv_tmp (t := 3) rfl)) ?_
      exact Z.post_of ⟨by first | (simp [inS, *]; done) | (simp [inS, *]; omega), rfl⟩ (by repeat (first | with_reducible exact Z.Takes.nil | (apply Z.Takes.cons; (repeat (first | with_reducible exact Z.Take.here | apply Z.Take.there))))) (by repeat (first | with_reducible exact Z.Drop.nil | apply Z.Drop.cons))

set_option maxHeartbeats 4000000 in
set_option maxRecDepth 100000 in
theorem indexF_spec (w0 : World) (p : Option Addr) (n cap : Nat) (s : List Span) (hn : s.length = n) (hp : 0 < n → ∃ b o, p = some ⟨b, o, none⟩ ∧ Z.Ro w0 b o (s.flatMap Span.c)) (b3 : Nat) (k : Int) (hnb : n ≤ 140737488355328) : Z.Fn Try.prog w0 57 [.slice p n cap, .func (.func 45) #[] #[.pointer (some ⟨b3, 0, none⟩)]] [Z.cl b3 34 [.int .u32 k]] (fun v Q => ∃ x, v = .int .i64 x ∧ decide (0 ≤ x) = hasS s k ∧ Q = [Z.cl b3 34 [.int .u32 k]]) := by
  refine Z.fn_enter (n := 19) Try.func57 rfl (by rfl) (by rfl) (fun Fr => ?_)
  refine Z.j_app (by repeat (first | exact Z.App.nil | apply Z.App.cons)) ?_
  refine Z.j_seq ?_
  refine Z.j_region ?_
  refine Z.s_val (Z.pv_assign rfl) ?_
  refine Z.j_nil ?_
  refine Z.j_then ?_
  refine Z.j_seq ?_
  refine Z.j_seq ?_
  refine Z.j_region ?_
  refine Z.s_val (Z.pv_move rfl) ?_
  refine Z.s_val (Z.pv_len rfl Try.underlying64) ?_
  refine Z.s_val (Z.pv_move rfl) ?_
  refine Z.j_nil ?_
  refine Z.j_then ?_
  refine Z.j_block ?_
  refine Z.j_initF (E' := [(0, .slice p n cap), (1, .func (.func 45) #[] #[.pointer (some ⟨b3, 0, none⟩)]), (7, .int .i64 n), (8, .int .i64 ((0) : Nat))]) (As := [Z.cl b3 34 [.int .u32 k]]) (Fr := Fr) (by repeat (first | exact trivial | refine ⟨rfl, ?_⟩)) (by repeat (first | with_reducible exact Z.Takes.nil | (apply Z.Takes.cons; (repeat (first | with_reducible exact Z.Take.here | apply Z.Take.there))))) (by repeat (first | with_reducible exact Z.Drop.nil | apply Z.Drop.cons)) ?_
  refine Z.j_loop (X := { x : (Nat) // (x) ≤ n ∧ hasS (s.drop (x)) k = hasS s k }) (fun (x : { x : (Nat) // (x) ≤ n ∧ hasS (s.drop (x)) k = hasS s k }) => [(0, .slice p n cap), (1, .func (.func 45) #[] #[.pointer (some ⟨b3, 0, none⟩)]), (7, .int .i64 n), (8, .int .i64 ((x.1) : Nat))]) (fun x => (fun (x : { x : (Nat) // (x) ≤ n ∧ hasS (s.drop (x)) k = hasS s k }) => [Z.cl b3 34 [.int .u32 k]]) x ++ Fr) (fun (x : { x : (Nat) // (x) ≤ n ∧ hasS (s.drop (x)) k = hasS s k }) => n - (x.1)) ⟨(0), ⟨by omega, by rw [List.drop_zero]⟩⟩ (fun x => ?_)
  obtain ⟨i, hinv⟩ := x
  have hinv' : i ≤ n ∧ hasS (s.drop i) k = hasS s k := hinv
  obtain ⟨hi, hh⟩ := hinv'
  show Z.J _ _ _ ([(0, .slice p n cap), (1, .func (.func 45) #[] #[.pointer (some ⟨b3, 0, none⟩)]), (7, .int .i64 n), (8, .int .i64 (i : Nat))]) ([Z.cl b3 34 [.int .u32 k]] ++ Fr) _
  refine Z.j_app (by repeat (first | exact Z.App.nil | apply Z.App.cons)) ?_
  refine Z.j_seq ?_
  refine Z.j_region ?_
  refine Z.s_val (Z.pv_lss rfl rfl) ?_
  refine Z.j_nil ?_
  refine Z.j_then ?_
  refine Z.j_seq ?_
  refine Z.j_cond rfl (fun hc9 => ?_) (fun hc9 => ?_)
  · try (with_reducible first | replace hc9 := of_decide_eq_true hc9 | replace hc9 := of_decide_eq_false hc9 | replace hc9 := Z.nd_true hc9 | replace hc9 := Z.nd_false hc9 | replace hc9 := Z.nn_true hc9 | replace hc9 := Z.nn_false hc9 | replace hc9 := Z.nb_true hc9 | replace hc9 := Z.nb_false hc9)
    first
    | (exfalso; first | (cases hc9; done) | omega)
    | skip
      obtain ⟨b1, o1, e1, hro⟩ := hp (by omega)
      have hdr := hasS_drop (s := s) (i := i) (k := k) (by omega)
      refine Z.j_skip ?_
      refine Z.j_then ?_
      refine Z.j_seq ?_
      refine Z.j_block ?_
      refine Z.j_seq ?_
      refine Z.j_region ?_
      refine Z.s_val (Z.pv_move rfl) ?_
      refine Z.s_val (Z.pv_assign rfl) ?_
      refine Z.j_nil ?_
      refine Z.j_then ?_
      refine Z.j_seq ?_
      refine Z.j_region ?_
      refine Z.s_val (Z.pv_move rfl) ?_
      refine Z.s_val (Z.pv_move rfl) ?_
      refine Z.s_val (Z.pv_move rfl) ?_
      refine Z.s_val (Z.pv_indexAddr (o' := o1 + i * 2) (b := b1) (o := o1) (len := n) (cap := cap) (by show some (Value.slice p n cap) = _; rw [e1]) rfl Try.underlying64 Try.sizeOf63 (by omega) (by simp)) ?_
      refine Z.s_val (Z.pv_loadAr (b := b1) (o := o1) (j := i * 2) rfl hro rfl Try.isAgg63 Try.sizeOf63 (slc_span (by omega))) ?_
      refine Z.s_callD (fs := []) rfl rfl rfl isFn45 (by repeat (first | with_reducible exact Z.Takes.nil | (apply Z.Takes.cons; (repeat (first | with_reducible exact Z.Take.here | apply Z.Take.there))))) (by repeat (first | exact Z.App.nil | apply Z.App.cons)) (has1_spec _ _ _ _ _) ?_
      refine Z.j_nil ?_
      refine Z.j_then ?_
      refine Z.j_cond rfl (fun hc16 => ?_) (fun hc16 => ?_)
      · try (with_reducible first | replace hc16 := of_decide_eq_true hc16 | replace hc16 := of_decide_eq_false hc16 | replace hc16 := Z.nd_true hc16 | replace hc16 := Z.nd_false hc16 | replace hc16 := Z.nn_true hc16 | replace hc16 := Z.nn_false hc16 | replace hc16 := Z.nb_true hc16 | replace hc16 := Z.nb_false hc16)
        first
        | (exfalso; first | (cases hc16; done) | omega)
        | skip
          refine Z.j_seq ?_
          refine Z.j_region ?_
          refine Z.s_val (Z.pv_move rfl) ?_
          refine Z.s_val (Z.pv_assign rfl) ?_
          refine Z.j_nil ?_
          refine Z.j_then ?_
          refine Z.j_ret ?_
          refine Z.j_blk_ret ?_
          refine Z.j_then_ret ?_
          refine Z.j_then_ret ?_
          refine Z.j_blk_ret ?_
          refine Z.j_then_ret ?_
          refine Z.j_done_ret (Z.rv1 (Z.rv_tmp (t := 4) rfl)) ?_
          first | exact Z.post_of ⟨_, rfl, by rw [hfin]; rfl, rfl⟩ (by repeat (first | with_reducible exact Z.Takes.nil | (apply Z.Takes.cons; (repeat (first | with_reducible exact Z.Take.here | apply Z.Take.there))))) (by repeat (first | with_reducible exact Z.Drop.nil | apply Z.Drop.cons)) | exact Z.post_of ⟨_, rfl, by rw [← hh, hdr, show inS (s.getD i Span.z) k = true from hc16]; simp, rfl⟩ (by repeat (first | with_reducible exact Z.Takes.nil | (apply Z.Takes.cons; (repeat (first | with_reducible exact Z.Take.here | apply Z.Take.there))))) (by repeat (first | with_reducible exact Z.Drop.nil | apply Z.Drop.cons))
      · try (with_reducible first | replace hc16 := of_decide_eq_true hc16 | replace hc16 := of_decide_eq_false hc16 | replace hc16 := Z.nd_true hc16 | replace hc16 := Z.nd_false hc16 | replace hc16 := Z.nn_true hc16 | replace hc16 := Z.nn_false hc16 | replace hc16 := Z.nb_true hc16 | replace hc16 := Z.nb_false hc16)
        first
        | (exfalso; first | (cases hc16; done) | omega)
        | skip
          refine Z.j_skip ?_
          refine Z.j_blk ?_
          refine Z.j_then ?_
          refine Z.j_region ?_
          refine Z.s_val (Z.pv_add rfl rfl (by first | exact IntWalk.i64_in _ (by omega) | rfl)) ?_
          refine Z.s_val (Z.pv_move rfl) ?_
          refine Z.j_nil ?_
          refine Z.j_then ?_
          (refine Z.j_nextG (X := { x : (Nat) // (x) ≤ n ∧ hasS (s.drop (x)) k = hasS s k }) (EE := (fun (x : { x : (Nat) // (x) ≤ n ∧ hasS (s.drop (x)) k = hasS s k }) => [(0, .slice p n cap), (1, .func (.func 45) #[] #[.pointer (some ⟨b3, 0, none⟩)]), (7, .int .i64 n), (8, .int .i64 ((x.1) : Nat))])) (LL := (fun (x : { x : (Nat) // (x) ≤ n ∧ hasS (s.drop (x)) k = hasS s k }) => [Z.cl b3 34 [.int .u32 k]])) (μ := (fun (x : { x : (Nat) // (x) ≤ n ∧ hasS (s.drop (x)) k = hasS s k }) => n - (x.1))) (x := ⟨(i), hinv⟩) ⟨(i + 1), ⟨by omega, by rw [← hh, hdr, show inS (s.getD i Span.z) k = false from hc16]; rfl⟩⟩ ?_ ?_ ?_; (show n - (i + 1) < n - i; omega); (exact (by repeat (first | exact trivial | refine ⟨rfl, ?_⟩))); (exact Z.st_td (by repeat (first | with_reducible exact Z.Takes.nil | (apply Z.Takes.cons; (repeat (first | with_reducible exact Z.Take.here | apply Z.Take.there))))) (by repeat (first | with_reducible exact Z.Drop.nil | apply Z.Drop.cons))))
  · try (with_reducible first | replace hc9 := of_decide_eq_true hc9 | replace hc9 := of_decide_eq_false hc9 | replace hc9 := Z.nd_true hc9 | replace hc9 := Z.nd_false hc9 | replace hc9 := Z.nn_true hc9 | replace hc9 := Z.nn_false hc9 | replace hc9 := Z.nb_true hc9 | replace hc9 := Z.nb_false hc9)
    first
    | (exfalso; first | (cases hc9; done) | omega)
    | skip
      have hfin : hasS s k = false := by rw [← hh, List.drop_of_length_le (by omega)]; rfl
      refine Z.j_exit ?_
      refine Z.j_then_exit ?_
      refine Z.j_then_exit ?_
      refine Z.j_blk_here rfl ?_
      refine Z.j_then ?_
      refine Z.j_seq ?_
      refine Z.j_region ?_
      refine Z.s_val (Z.pv_assign rfl) ?_
      refine Z.j_nil ?_
      refine Z.j_then ?_
      refine Z.j_ret ?_
      refine Z.j_done_ret (Z.rv1 (Z.rv_tmp (t := 4) rfl)) ?_
      first | exact Z.post_of ⟨_, rfl, by rw [hfin]; rfl, rfl⟩ (by repeat (first | with_reducible exact Z.Takes.nil | (apply Z.Takes.cons; (repeat (first | with_reducible exact Z.Take.here | apply Z.Take.there))))) (by repeat (first | with_reducible exact Z.Drop.nil | apply Z.Drop.cons)) | exact Z.post_of ⟨_, rfl, by rw [← hh, hdr, show inS (s.getD i Span.z) k = true from hc16]; simp, rfl⟩ (by repeat (first | with_reducible exact Z.Takes.nil | (apply Z.Takes.cons; (repeat (first | with_reducible exact Z.Take.here | apply Z.Take.there))))) (by repeat (first | with_reducible exact Z.Drop.nil | apply Z.Drop.cons))

set_option maxHeartbeats 4000000 in
set_option maxRecDepth 100000 in
theorem contains_spec (w0 : World) (p : Option Addr) (n cap : Nat) (s : List Span) (hn : s.length = n) (hp : 0 < n → ∃ b o, p = some ⟨b, o, none⟩ ∧ Z.Ro w0 b o (s.flatMap Span.c)) (b3 : Nat) (k : Int) (hnb : n ≤ 140737488355328) : Z.FnD Try.prog w0 44 [.slice p n cap, .func (.func 45) #[] #[.pointer (some ⟨b3, 0, none⟩)]] [Z.cl b3 34 [.int .u32 k]] (.bool (hasS s k)) [Z.cl b3 34 [.int .u32 k]] := by
  refine Z.Fn.fnD ?_
  refine Z.fn_enter (n := 9) Try.func44 rfl (by rfl) (by rfl) (fun Fr => ?_)
  refine Z.j_app (by repeat (first | exact Z.App.nil | apply Z.App.cons)) ?_
  refine Z.j_seq ?_
  refine Z.j_region ?_
  refine Z.s_val (Z.pv_assign rfl) ?_
  refine Z.j_nil ?_
  refine Z.j_then ?_
  refine Z.j_seq ?_
  refine Z.j_region ?_
  refine Z.s_val (Z.pv_move rfl) ?_
  refine Z.s_val (Z.pv_move rfl) ?_
  refine Z.s_call rfl rfl rfl isFn57 (by repeat (first | with_reducible exact Z.Takes.nil | (apply Z.Takes.cons; (repeat (first | with_reducible exact Z.Take.here | apply Z.Take.there))))) (indexF_spec _ p n cap s hn hp b3 k hnb) ?_
  rintro _ _ ⟨x7, rfl, hx7, rfl⟩
  refine Z.j_app (by repeat (first | exact Z.App.nil | apply Z.App.cons)) ?_
  refine Z.s_val (Z.pv_geq rfl rfl) ?_
  refine Z.s_val (Z.pv_assign rfl) ?_
  refine Z.j_nil ?_
  refine Z.j_then ?_
  refine Z.j_ret ?_
  refine Z.j_done_ret (Z.rv1 (Z.rv_tmp (t := 4) rfl)) ?_
  exact Z.post_of ⟨by rw [hx7], rfl⟩ (by repeat (first | with_reducible exact Z.Takes.nil | (apply Z.Takes.cons; (repeat (first | with_reducible exact Z.Take.here | apply Z.Take.there))))) (by repeat (first | with_reducible exact Z.Drop.nil | apply Z.Drop.cons))

set_option maxHeartbeats 4000000 in
set_option maxRecDepth 100000 in
theorem ivl1_spec (w0 : World) (p : Option Addr) (n cap : Nat) (s : List Span) (hn : s.length = n) (hp : 0 < n → ∃ b o, p = some ⟨b, o, none⟩ ∧ Z.Ro w0 b o (s.flatMap Span.c)) (k : Int) (hnb : n ≤ 140737488355328) : Z.FnD Try.prog w0 37 [.slice p n cap, .int .u32 k] [] (.bool (hasS s k)) [] := by
  refine Z.Fn.fnD ?_
  refine Z.fn_enter (n := 8) Try.func37 rfl (by rfl) (by rfl) (fun Fr => ?_)
  refine Z.j_app (by repeat (first | exact Z.App.nil | apply Z.App.cons)) ?_
  refine Z.j_seq ?_
  refine Z.j_region ?_
  refine Z.s_box1 rfl rfl (fun b3 => ?_)
  refine Z.s_val (Z.pv_assign rfl) ?_
  refine Z.j_nil ?_
  refine Z.j_then ?_
  refine Z.j_seq ?_
  refine Z.j_region ?_
  refine Z.s_val (Z.pv_move rfl) ?_
  refine Z.s_val (Z.pv_func rfl rfl) ?_
  refine Z.s_callD rfl rfl rfl isFn44 (by repeat (first | with_reducible exact Z.Takes.nil | (apply Z.Takes.cons; (repeat (first | with_reducible exact Z.Take.here | apply Z.Take.there))))) (by repeat (first | exact Z.App.nil | apply Z.App.cons)) (contains_spec _ p n cap s hn hp b3 k hnb) ?_
  refine Z.s_val (Z.pv_assign rfl) ?_
  refine Z.j_nil ?_
  refine Z.j_then ?_
  refine Z.j_ret ?_
  refine Z.j_done_ret (Z.rv1 (Z.rv_tmp (t := 4) rfl)) ?_
  exact Z.post_of ⟨rfl, rfl⟩ (by repeat (first | with_reducible exact Z.Takes.nil | (apply Z.Takes.cons; (repeat (first | with_reducible exact Z.Take.here | apply Z.Take.there))))) (by repeat (first | with_reducible exact Z.Drop.nil | apply Z.Drop.cons))


theorem ivl_spec (w0 : World) (h : Value) (s : List Span) (k : Int) (hS : SlRo w0 h s) (hnb : s.length ≤ 140737488355328) : Z.FnD Try.prog w0 37 [h, .int .u32 k] [] (.bool (hasS s k)) [] := by
  obtain ⟨p, cap, rfl, hp⟩ := hS
  exact ivl1_spec w0 p s.length cap s rfl hp k hnb

set_option maxHeartbeats 4000000 in
set_option maxRecDepth 100000 in
theorem at_spec (w0 : World) (p : Option Addr) (n cap : Nat) (hs : List Value) (hh : hs.length = n) (hp : 0 < n → ∃ b o, p = some ⟨b, o, none⟩ ∧ Z.Ro w0 b o hs) (i : Int) (hi : 0 ≤ i) : Z.FnD Try.prog w0 38 [.slice p n cap, .int .i64 i] [] (hs.getD i.toNat nilS) [] := by
  refine Z.Fn.fnD ?_
  refine Z.fn_enter (n := 13) Try.func38 rfl (by rfl) (by rfl) (fun Fr => ?_)
  refine Z.j_app (by repeat (first | exact Z.App.nil | apply Z.App.cons)) ?_
  refine Z.j_seq ?_
  refine Z.j_region ?_
  refine Z.s_val (Z.pv_assign rfl) ?_
  refine Z.j_nil ?_
  refine Z.j_then ?_
  refine Z.j_seq ?_
  refine Z.j_seq ?_
  refine Z.j_region ?_
  refine Z.s_val (Z.pv_move rfl) ?_
  refine Z.s_val (Z.pv_move rfl) ?_
  refine Z.s_val (Z.pv_len rfl Try.underlying23) ?_
  refine Z.s_val (Z.pv_lss rfl rfl) ?_
  refine Z.j_nil ?_
  refine Z.j_then ?_
  refine Z.j_cond rfl (fun hc8 => ?_) (fun hc8 => ?_)
  · try (with_reducible first | replace hc8 := of_decide_eq_true hc8 | replace hc8 := of_decide_eq_false hc8 | replace hc8 := Z.nd_true hc8 | replace hc8 := Z.nd_false hc8 | replace hc8 := Z.nn_true hc8 | replace hc8 := Z.nn_false hc8 | replace hc8 := Z.nb_true hc8 | replace hc8 := Z.nb_false hc8)
    first
    | (exfalso; first | (cases hc8; done) | omega)
    | skip
      obtain ⟨b1, o1, e1, hro⟩ := hp (by omega)
      refine Z.j_seq ?_
      refine Z.j_region ?_
      refine Z.s_val (Z.pv_move rfl) ?_
      refine Z.s_val (Z.pv_move rfl) ?_
      refine Z.s_val (Z.pv_indexAddr (o' := o1 + i.toNat) (b := b1) (o := o1) (len := n) (cap := cap) (by show some (Value.slice p n cap) = _; rw [e1]) rfl Try.underlying23 Try.sizeOf64 (by omega) (by simp)) ?_
      refine Z.s_val (Z.pv_load1r (v := hs.getD i.toNat nilS) (b := b1) (o := o1) (j := i.toNat) rfl hro rfl Try.isAgg64 (get_hd (by omega))) ?_
      refine Z.s_val (Z.pv_assign rfl) ?_
      refine Z.j_nil ?_
      refine Z.j_then ?_
      refine Z.j_ret ?_
      refine Z.j_then_ret ?_
      refine Z.j_done_ret (Z.rv1 (Z.rv_tmp (t := 4) rfl)) ?_
      first | exact Z.post_of ⟨rfl, rfl⟩ (by repeat (first | with_reducible exact Z.Takes.nil | (apply Z.Takes.cons; (repeat (first | with_reducible exact Z.Take.here | apply Z.Take.there))))) (by repeat (first | with_reducible exact Z.Drop.nil | apply Z.Drop.cons)) | exact Z.post_of ⟨by rw [List.getD_eq_getElem?_getD, List.getElem?_eq_none (by omega)]; rfl, rfl⟩ (by repeat (first | with_reducible exact Z.Takes.nil | (apply Z.Takes.cons; (repeat (first | with_reducible exact Z.Take.here | apply Z.Take.there))))) (by repeat (first | with_reducible exact Z.Drop.nil | apply Z.Drop.cons))
  · try (with_reducible first | replace hc8 := of_decide_eq_true hc8 | replace hc8 := of_decide_eq_false hc8 | replace hc8 := Z.nd_true hc8 | replace hc8 := Z.nd_false hc8 | replace hc8 := Z.nn_true hc8 | replace hc8 := Z.nn_false hc8 | replace hc8 := Z.nb_true hc8 | replace hc8 := Z.nb_false hc8)
    first
    | (exfalso; first | (cases hc8; done) | omega)
    | skip
      refine Z.j_skip ?_
      refine Z.j_then ?_
      refine Z.j_seq ?_
      refine Z.j_region ?_
      refine Z.s_val (Z.pv_assign rfl) ?_
      refine Z.j_nil ?_
      refine Z.j_then ?_
      refine Z.j_ret ?_
      refine Z.j_done_ret (Z.rv1 (Z.rv_tmp (t := 4) rfl)) ?_
      first | exact Z.post_of ⟨rfl, rfl⟩ (by repeat (first | with_reducible exact Z.Takes.nil | (apply Z.Takes.cons; (repeat (first | with_reducible exact Z.Take.here | apply Z.Take.there))))) (by repeat (first | with_reducible exact Z.Drop.nil | apply Z.Drop.cons)) | exact Z.post_of ⟨by rw [List.getD_eq_getElem?_getD, List.getElem?_eq_none (by omega)]; rfl, rfl⟩ (by repeat (first | with_reducible exact Z.Takes.nil | (apply Z.Takes.cons; (repeat (first | with_reducible exact Z.Take.here | apply Z.Take.there))))) (by repeat (first | with_reducible exact Z.Drop.nil | apply Z.Drop.cons))

set_option maxHeartbeats 4000000 in
set_option maxRecDepth 100000 in
theorem area1_spec (w0 : World) (p : Option Addr) (n cap : Nat) (hs : List Value) (hh : hs.length = n) (hp : 0 < n → ∃ b o, p = some ⟨b, o, none⟩ ∧ Z.Ro w0 b o hs) (a : Area) (hS : ∀ i, SlRo w0 (hs.getD i nilS) (a.getD i [])) (hnb : ∀ i, (a.getD i []).length ≤ 140737488355328) (cl ck : Int) : Z.FnD Try.prog w0 29 [.slice p n cap, .agg #[.int .i64 cl, .int .u32 ck]] [] (.bool (hasA a (⟨cl, ck⟩ : Cell))) [] := by
  refine Z.Fn.fnD ?_
  refine Z.fn_enter (n := 17) Try.func29 rfl (by rfl) (by rfl) (fun Fr => ?_)
  refine Z.j_app (by repeat (first | exact Z.App.nil | apply Z.App.cons)) ?_
  refine Z.j_seq ?_
  refine Z.j_region ?_
  refine Z.s_box rfl (fun b3 => ?_)
  refine Z.s_val (Z.pv_assign rfl) ?_
  refine Z.j_nil ?_
  refine Z.j_then ?_
  refine Z.j_seq ?_
  by_cases hd8 : 0 ≤ cl
  · skip
    refine Z.j_draw (vals := [_, _, _, _, _, _, _, _, _, _, _, _, _]) 13 (by kernel_rfl) (by kernel_rfl) rfl (by rfl) (Z.heads_cons (Z.hq_val (Z.pv_fieldAddr (o' := 0) (by rfl) Try.underlying36 (by rfl) (by exact Try.sizeOf3) (by rfl))) (Z.heads_cons (Z.hq_val (Z.pv_load1 (by rfl) (by repeat (first | with_reducible exact Z.Take.here | apply Z.Take.there)) Try.isAgg3 (by rfl))) (Z.heads_cons (Z.hq_val (Z.pv_geq (by rfl) (by rfl))) (Z.heads_cons (Z.hq_val (Z.pv_is (Z.pv_move (by rfl)) (Z.bool_t hd8))) (Z.heads_cons (Z.hq_val (Z.pv_move (by rfl))) (Z.heads_cons (Z.hq_val (Z.pv_fieldAddr (o' := 0) (by rfl) Try.underlying36 (by rfl) (by exact Try.sizeOf3) (by rfl))) (Z.heads_cons (Z.hq_val (Z.pv_load1 (by rfl) (by repeat (first | with_reducible exact Z.Take.here | apply Z.Take.there)) Try.isAgg3 (by rfl))) (Z.heads_cons (Z.hq_callD (by rfl) (by rfl) (by rfl) isFn38 (by repeat (first | with_reducible exact Z.Takes.nil | (apply Z.Takes.cons; (repeat (first | with_reducible exact Z.Take.here | apply Z.Take.there))))) (by repeat (first | with_reducible exact Z.Takes.nil | (apply Z.Takes.cons; (repeat (first | with_reducible exact Z.Take.here | apply Z.Take.there))))) (at_spec _ p n cap hs hh hp cl hd8)) (Z.heads_cons (Z.hq_val (Z.pv_fieldAddr (o' := 1) (by rfl) Try.underlying36 (by rfl) (by exact Try.sizeOf34) (by rfl))) (Z.heads_cons (Z.hq_val (Z.pv_load1 (by rfl) (by repeat (first | with_reducible exact Z.Take.here | apply Z.Take.there)) Try.isAgg34 (by rfl))) (Z.heads_cons (Z.hq_callD (by rfl) (by rfl) (by rfl) isFn37 (by repeat (first | with_reducible exact Z.Takes.nil | (apply Z.Takes.cons; (repeat (first | with_reducible exact Z.Take.here | apply Z.Take.there))))) (by repeat (first | with_reducible exact Z.Takes.nil | (apply Z.Takes.cons; (repeat (first | with_reducible exact Z.Take.here | apply Z.Take.there))))) (ivl_spec _ _ _ _ (hS cl.toNat) (hnb _))) (Z.heads_cons (Z.hq_val (Z.pv_pick (by rfl) (by rfl))) (Z.heads_cons (Z.hq_val (Z.pv_assign (by rfl))) Z.heads_nil))))))))))))) ?_
    refine Z.j_nil ?_
    refine Z.j_then ?_
    refine Z.j_ret ?_
    refine Z.j_done_ret (Z.rv1 (Z.rv_tmp (t := 4) rfl)) ?_
    exact Z.post_of ⟨by simp [hasA, hd8], rfl⟩ (by repeat (first | with_reducible exact Z.Takes.nil | (apply Z.Takes.cons; (repeat (first | with_reducible exact Z.Take.here | apply Z.Take.there))))) (by repeat (first | with_reducible exact Z.Drop.nil | apply Z.Drop.cons))
  · skip
    refine Z.j_draw (vals := [_, _, _, _, _, _, _, _, _, _, _, _, _]) 13 (by kernel_rfl) (by kernel_rfl) rfl (by rfl) (Z.heads_cons (Z.hq_val (Z.pv_fieldAddr (o' := 0) (by rfl) Try.underlying36 (by rfl) (by exact Try.sizeOf3) (by rfl))) (Z.heads_cons (Z.hq_val (Z.pv_load1 (by rfl) (by repeat (first | with_reducible exact Z.Take.here | apply Z.Take.there)) Try.isAgg3 (by rfl))) (Z.heads_cons (Z.hq_val (Z.pv_geq (by rfl) (by rfl))) (Z.heads_cons (Z.hq_val (Z.pv_is (Z.pv_move (by rfl)) (Z.bool_f hd8))) (Z.heads_cons Z.hq_skip (Z.heads_cons Z.hq_skip (Z.heads_cons Z.hq_skip (Z.heads_cons Z.hq_skip (Z.heads_cons Z.hq_skip (Z.heads_cons Z.hq_skip (Z.heads_cons Z.hq_skip (Z.heads_cons (Z.hq_val (Z.pv_pick (by rfl) (by rfl))) (Z.heads_cons (Z.hq_val (Z.pv_assign (by rfl))) Z.heads_nil))))))))))))) ?_
    refine Z.j_nil ?_
    refine Z.j_then ?_
    refine Z.j_ret ?_
    refine Z.j_done_ret (Z.rv1 (Z.rv_tmp (t := 4) rfl)) ?_
    exact Z.post_of ⟨by simp [hasA, hd8], rfl⟩ (by repeat (first | with_reducible exact Z.Takes.nil | (apply Z.Takes.cons; (repeat (first | with_reducible exact Z.Take.here | apply Z.Take.there))))) (by repeat (first | with_reducible exact Z.Drop.nil | apply Z.Drop.cons))


theorem area_has (w0 : World) (v : Value) (a : Area) (hA : AreaRo w0 v a) (hnb : ∀ i, (a.getD i []).length ≤ 140737488355328) (cl ck : Int) : Z.FnD Try.prog w0 29 [v, .agg #[.int .i64 cl, .int .u32 ck]] [] (.bool (hasA a (⟨cl, ck⟩ : Cell))) [] := by
  obtain ⟨p, cap, hs, rfl, hh, hp, hS⟩ := hA
  exact area1_spec w0 p a.length cap hs hh hp a hS hnb cl ck

set_option maxHeartbeats 4000000 in
set_option maxRecDepth 100000 in
theorem in_spec (w0 : World) (rb : Nat) (r : RSt) (hr : r.ok) (v : Value) (a : Area) (Ap : Z.SP) (hnb : ∀ i, (a.getD i []).length ≤ 140737488355328) (hA : ∀ w R, Z.St w0 (Ap :: R) w → AreaRo w v a) : Z.Fn Try.prog w0 22 [.pointer (some ⟨rb, 0, none⟩), v] [RowP rb r, Ap] (fun u Q => Q = [RowP rb r, Ap, Z.Own 3 1 u (inA r.ver a).length (i64s (inA r.ver a))]) := by
  have hlen := hr.len
  have hl1 := hr.l1
  refine Z.fn_enter (n := 29) Try.func22 rfl (by rfl) (by rfl) (fun Fr => ?_)
  refine Z.j_app (by repeat (first | exact Z.App.nil | apply Z.App.cons)) ?_
  refine Z.j_seq ?_
  refine Z.j_region ?_
  refine Z.s_val (Z.pv_assign rfl) ?_
  refine Z.j_nil ?_
  refine Z.j_then ?_
  refine Z.j_seq ?_
  refine Z.j_region ?_
  refine Z.s_val (Z.pv_assign rfl) ?_
  refine Z.j_nil ?_
  refine Z.j_then ?_
  refine Z.j_seq ?_
  refine Z.j_seq ?_
  refine Z.j_region ?_
  refine Z.s_val (Z.pv_move rfl) ?_
  refine Z.s_call rfl rfl rfl isFn28 (by repeat (first | with_reducible exact Z.Takes.nil | (apply Z.Takes.cons; (repeat (first | with_reducible exact Z.Take.here | apply Z.Take.there))))) (sorted_spec _ _ _ hr) ?_
  rintro vS _ rfl
  refine Z.j_app (by repeat (first | exact Z.App.nil | apply Z.App.cons)) ?_
  refine Z.s_val (Z.pv_lenO rfl (by repeat (first | with_reducible exact Z.Take.here | apply Z.Take.there)) Try.underlying30) ?_
  refine Z.s_val (Z.pv_move rfl) ?_
  refine Z.j_nil ?_
  refine Z.j_then ?_
  refine Z.j_block ?_
  refine Z.J.own_nil 3 1 ?_
  refine Z.j_cast (A := Z.Own 3 1 (.slice none 0 0) 0 []) (B := Z.Own 3 1 (.slice none 0 0) (outs r.ver a 0).length (i64s (outs r.ver a 0))) (by repeat (first | with_reducible exact Z.Take.here | apply Z.Take.there)) rfl ?_
  refine Z.j_initF (E' := [(0, .pointer (some ⟨rb, 0, none⟩)), (1, v), (5, (.slice none 0 0)), (9, vS), (10, .int .i64 r.ver.length), (11, .int .i64 ((0) : Nat))]) (As := [Z.Own 36 2 vS r.ver.length ((sortC r.ver).flatMap Cell.c), Z.Own 3 1 (.slice none 0 0) (outs r.ver a (0)).length (i64s (outs r.ver a (0))), RowP rb r, Ap]) (Fr := Fr) (by repeat (first | exact trivial | refine ⟨rfl, ?_⟩)) (by repeat (first | with_reducible exact Z.Takes.nil | (apply Z.Takes.cons; (repeat (first | with_reducible exact Z.Take.here | apply Z.Take.there))))) (by repeat (first | with_reducible exact Z.Drop.nil | apply Z.Drop.cons)) ?_
  refine Z.j_loop (X := { x : (Nat) × (Value) // (x.1) ≤ r.ver.length }) (fun (x : { x : (Nat) × (Value) // (x.1) ≤ r.ver.length }) => [(0, .pointer (some ⟨rb, 0, none⟩)), (1, v), (5, (x.1.2)), (9, vS), (10, .int .i64 r.ver.length), (11, .int .i64 ((x.1.1) : Nat))]) (fun x => (fun (x : { x : (Nat) × (Value) // (x.1) ≤ r.ver.length }) => [Z.Own 36 2 vS r.ver.length ((sortC r.ver).flatMap Cell.c), Z.Own 3 1 (x.1.2) (outs r.ver a (x.1.1)).length (i64s (outs r.ver a (x.1.1))), RowP rb r, Ap]) x ++ Fr) (fun (x : { x : (Nat) × (Value) // (x.1) ≤ r.ver.length }) => r.ver.length - (x.1.1)) ⟨(0, .slice none 0 0), by omega⟩ (fun x => ?_)
  obtain ⟨⟨i, vo⟩, hinv⟩ := x
  have hinv' : i ≤ r.ver.length := hinv
  have hi := hinv'
  show Z.J _ _ _ ([(0, .pointer (some ⟨rb, 0, none⟩)), (1, v), (5, vo), (9, vS), (10, .int .i64 r.ver.length), (11, .int .i64 (i : Nat))]) ([Z.Own 36 2 vS r.ver.length ((sortC r.ver).flatMap Cell.c), Z.Own 3 1 vo (outs r.ver a i).length (i64s (outs r.ver a i)), RowP rb r, Ap] ++ Fr) _
  refine Z.j_app (by repeat (first | exact Z.App.nil | apply Z.App.cons)) ?_
  refine Z.j_seq ?_
  refine Z.j_region ?_
  refine Z.s_val (Z.pv_lss rfl rfl) ?_
  refine Z.j_nil ?_
  refine Z.j_then ?_
  refine Z.j_seq ?_
  refine Z.j_cond rfl (fun hc12 => ?_) (fun hc12 => ?_)
  · try (with_reducible first | replace hc12 := of_decide_eq_true hc12 | replace hc12 := of_decide_eq_false hc12 | replace hc12 := Z.nd_true hc12 | replace hc12 := Z.nd_false hc12 | replace hc12 := Z.nn_true hc12 | replace hc12 := Z.nn_false hc12 | replace hc12 := Z.nb_true hc12 | replace hc12 := Z.nb_false hc12)
    first
    | (exfalso; first | (cases hc12; done) | omega)
    | skip
      have hol := outs_len r.ver a i
      have hst := outs_step (a := a) (ver := r.ver) (i := i) (by omega)
      refine Z.j_skip ?_
      refine Z.j_then ?_
      refine Z.j_seq ?_
      refine Z.j_block ?_
      refine Z.j_seq ?_
      refine Z.j_unown (T := 36) (k := 2) (by repeat (first | with_reducible exact Z.Take.here | apply Z.Take.there)) (fun e1 e2 e3 => by exfalso; omega) (fun nb cap sp e1 e2 e3 => ?_)
      refine Z.j_region ?_
      refine Z.s_val (Z.pv_indexAddr (o' := i * 2) (b := nb) (o := 0) (len := r.ver.length) (cap := cap) (by show some vS = _; rw [e1]) rfl Try.underlying30 Try.sizeOf36 (by omega) (by simp)) ?_
      refine Z.s_val (Z.pv_loadA rfl (by repeat (first | with_reducible exact Z.Take.here | apply Z.Take.there)) Try.isAgg36 Try.sizeOf36 (slc_cell sp (by rw [sortC_len]; omega))) ?_
      refine Z.s_alloc Try.zeroValue36 (fun b7 => ?_)
      refine Z.s_storeA rfl rfl Try.sizeOf36 rfl (by repeat (first | with_reducible exact Z.Upd.here | apply Z.Upd.there)) (by rfl) ?_
      refine Z.j_nil ?_
      refine Z.j_then ?_
      refine Z.j_seq ?_
      refine Z.j_region ?_
      refine Z.s_val (Z.pv_move rfl) ?_
      refine Z.s_val (Z.pv_loadA rfl (by repeat (first | with_reducible exact Z.Take.here | apply Z.Take.there)) Try.isAgg36 Try.sizeOf36 (by rfl)) ?_
      refine Z.s_callLD rfl rfl rfl isFn29 (fun w hs => area_has w v a (hA w _ (hs.take (by repeat (first | with_reducible exact Z.Take.here | apply Z.Take.there)))) hnb _ _) ?_
      refine Z.j_nil ?_
      refine Z.j_then ?_
      refine Z.j_cond rfl (fun hc17 => ?_) (fun hc17 => ?_)
      · try (with_reducible first | replace hc17 := of_decide_eq_true hc17 | replace hc17 := of_decide_eq_false hc17 | replace hc17 := Z.nd_true hc17 | replace hc17 := Z.nd_false hc17 | replace hc17 := Z.nn_true hc17 | replace hc17 := Z.nn_false hc17 | replace hc17 := Z.nb_true hc17 | replace hc17 := Z.nb_false hc17)
        first
        | (exfalso; first | (cases hc17; done) | omega)
        | skip
          refine Z.j_open (A := RowP rb r) (by repeat (first | with_reducible exact Z.Take.here | apply Z.Take.there)) (fun _ H => H) (fun o => ?_)
          show Z.J _ _ _ _ (RowF rb o r ++ _) _
          unfold RowF
          refine Z.j_app (by repeat (first | exact Z.App.nil | apply Z.App.cons)) ?_
          refine Z.j_drawTm 9 [⟨none, none, [4], fun ρ => Z.cl rb 29 [vO o, eO o, .int .i64 r.last]⟩, ⟨none, none, [5], fun ρ => Z.cl b7 36 [.int .i64 ((sortC r.ver).getD i Cell.z).l, .int .u32 ((sortC r.ver).getD i Cell.z).k]⟩, ⟨none, none, [6], fun ρ => Z.MapV (vO o) Cell.e (Value.int .i64) r.ver⟩, ⟨none, (some 8), [], fun ρ => Z.Own 3 1 vo (outs r.ver a i).length (i64s (outs r.ver a i))⟩, ⟨(some 7), (some 8), [], fun ρ => Z.Own 3 1 (ρ 7) 1 [.int .i64 (fV r.ver (sAt r.ver i))]⟩, ⟨(some 8), none, [], fun ρ => Z.Own 3 1 (ρ 8) ((outs r.ver a i).length + 1) (i64s (outs r.ver a i) ++ [.int .i64 (fV r.ver (sAt r.ver i))])⟩] [7, 8] (fun ρ => [vo, .pointer (some ⟨rb, 0, none⟩), .pointer (some ⟨rb, 0, none⟩), .pointer (some ⟨rb, 0, none⟩), vO o, .agg #[.int .i64 ((sortC r.ver).getD i Cell.z).l, .int .u32 ((sortC r.ver).getD i Cell.z).k], .int .i64 (fV r.ver (sAt r.ver i)), ρ 7, ρ 8]) (by kernel_rfl) rfl (by kernel_rfl) (by kernel_rfl) (by rfl) (fun _ => rfl) ⟨fun _ _ => rfl, fun _ _ => rfl, ⟨fun _ _ => rfl, fun _ _ => rfl, trivial⟩⟩ (fun ρ => (by repeat (first | with_reducible exact Z.Takes.nil | (apply Z.Takes.cons; (repeat (first | with_reducible exact Z.Take.here | apply Z.Take.there))) | exact Z.Takes.nil))) ?_ (fun ρ => ?_)
          · skip
            refine Z.tops_cons ?_ ?_
            · refine Z.top_q (fun ρ => vo) rfl (fun _ => rfl) (fun ρ Rr => ?_)
              show Z.HQ _ _ _ _ _ _ (Rr) _ _
              exact (Z.hq_val (Z.pv_move rfl))
            refine Z.tops_cons ?_ ?_
            · refine Z.top_q (fun ρ => .pointer (some ⟨rb, 0, none⟩)) rfl (fun _ => rfl) (fun ρ Rr => ?_)
              show Z.HQ _ _ _ _ _ _ (Rr) _ _
              exact (Z.hq_val (Z.pv_move rfl))
            refine Z.tops_cons ?_ ?_
            · refine Z.top_q (fun ρ => .pointer (some ⟨rb, 0, none⟩)) rfl (fun _ => rfl) (fun ρ Rr => ?_)
              show Z.HQ _ _ _ _ _ _ (Rr) _ _
              exact (Z.hq_val (Z.pv_nil rfl))
            refine Z.tops_cons ?_ ?_
            · refine Z.top_q (fun ρ => .pointer (some ⟨rb, 0, none⟩)) rfl (fun _ => rfl) (fun ρ Rr => ?_)
              show Z.HQ _ _ _ _ _ _ (Rr) _ _
              exact (Z.hq_val (Z.pv_fieldAddr (o' := 0) rfl Try.underlying29 rfl Try.sizeOf26 rfl))
            refine Z.tops_cons ?_ ?_
            · refine Z.top_q (fun ρ => vO o) rfl (fun _ => rfl) (fun ρ Rr => ?_)
              show Z.HQ _ _ _ _ _ _ (Z.cl rb 29 [vO o, eO o, .int .i64 r.last] :: Rr) _ _
              exact (Z.hq_val (Z.pv_load1 rfl (by repeat (first | with_reducible exact Z.Take.here | apply Z.Take.there)) Try.isAgg26 (by rfl)))
            refine Z.tops_cons ?_ ?_
            · refine Z.top_q (fun ρ => .agg #[.int .i64 ((sortC r.ver).getD i Cell.z).l, .int .u32 ((sortC r.ver).getD i Cell.z).k]) rfl (fun _ => rfl) (fun ρ Rr => ?_)
              show Z.HQ _ _ _ _ _ _ (Z.cl b7 36 [.int .i64 ((sortC r.ver).getD i Cell.z).l, .int .u32 ((sortC r.ver).getD i Cell.z).k] :: Rr) _ _
              exact (Z.hq_val (Z.pv_loadA rfl (by repeat (first | with_reducible exact Z.Take.here | apply Z.Take.there)) Try.isAgg36 Try.sizeOf36 (by rfl)))
            refine Z.tops_cons ?_ ?_
            · refine Z.top_q (fun ρ => .int .i64 (fV r.ver (sAt r.ver i))) rfl (fun _ => rfl) (fun ρ Rr => ?_)
              show Z.HQ _ _ _ _ _ _ (Z.MapV (vO o) Cell.e (Value.int .i64) r.ver :: Rr) _ _
              exact (Z.hq_val (Z.pv_lookupV (k := sAt r.ver i) (venc := Value.int .i64) (m := r.ver) 0 rfl rfl Try.underlying26 kCell Try.zeroValue3 (by repeat (first | with_reducible exact Z.Take.here | apply Z.Take.there))))
            refine Z.tops_cons ?_ ?_
            · refine Z.top_c rfl (fun ρ Rr => ?_)
              refine Z.hn_of rfl (by rfl) rfl (by rfl) ?_
              show Z.J _ _ _ _ ([] ++ Rr) _
              refine Z.j_app (by repeat (first | exact Z.App.nil | apply Z.App.cons)) ?_
              refine Z.s_buildSlice rfl Try.underlying48 Try.zeroValue3 Try.sizeOf3 rfl rfl rfl rfl (fun b25 => ?_)
              refine Z.J.own_mk (T := 3) (k := 1) (m := 1) (c := [.int .i64 (fV r.ver (sAt r.ver i))]) (by repeat (first | with_reducible exact Z.Take.here | apply Z.Take.there)) rfl ?_
              refine Z.j_nil ?_
              refine Z.hn_end (by rfl) (fun w hs => ⟨rfl, Z.st_td (by repeat (first | with_reducible exact Z.Takes.nil | (apply Z.Takes.cons; (repeat (first | exact Z.Take.here | apply Z.Take.there))) | exact Z.Takes.nil)) (by repeat (first | with_reducible exact Z.Drop.nil | apply Z.Drop.cons)) w hs⟩)
            refine Z.tops_cons ?_ ?_
            · refine Z.top_c rfl (fun ρ Rr => ?_)
              refine Z.hn_of rfl (by rfl) rfl (by rfl) ?_
              show Z.J _ _ _ _ ([Z.Own 3 1 vo (outs r.ver a i).length (i64s (outs r.ver a i)), Z.Own 3 1 (ρ 7) 1 [.int .i64 (fV r.ver (sAt r.ver i))]] ++ Rr) _
              refine Z.j_app (by repeat (first | exact Z.App.nil | apply Z.App.cons)) ?_
              refine Z.j_unown (T := 3) (k := 1) (v := ρ 7) (by repeat (first | with_reducible exact Z.Take.here | apply Z.Take.there)) (fun e1 e2 e3 => by cases e2) (fun nb cap sp e1 e2 e3 => ?_)
              refine Z.s_append (k := 1) (by' := 8) (cap2 := cap) rfl (by show some (ρ 7) = _; rw [e1]) (by repeat (first | with_reducible exact Z.Take.here | apply Z.Take.there)) (Z.reads_cl (by repeat (first | with_reducible exact Z.Take.here | apply Z.Take.there)) (k := 1) (slc_one _ _)) Try.underlying48 Try.typeInfo3 rfl rfl rfl rfl rfl rfl (.inl (by omega)) (by omega) (by omega) (fun v26 hv26 => ?_)
              refine Z.j_nil ?_
              refine Z.hn_end (by rfl) (fun w hs => ⟨rfl, Z.st_td (by repeat (first | with_reducible exact Z.Takes.nil | (apply Z.Takes.cons; (repeat (first | exact Z.Take.here | apply Z.Take.there))) | exact Z.Takes.nil)) (by repeat (first | with_reducible exact Z.Drop.nil | apply Z.Drop.cons)) w hs⟩)
            exact Z.tops_nil
          · show Z.J _ _ _ _ ([Z.cl rb 29 [vO o, eO o, .int .i64 r.last], Z.cl b7 36 [.int .i64 ((sortC r.ver).getD i Cell.z).l, .int .u32 ((sortC r.ver).getD i Cell.z).k], Z.MapV (vO o) Cell.e (Value.int .i64) r.ver, Z.Own 3 1 (ρ 8) ((outs r.ver a i).length + 1) (i64s (outs r.ver a i) ++ [.int .i64 (fV r.ver (sAt r.ver i))])] ++ _) _
            refine Z.j_app (by repeat (first | exact Z.App.nil | apply Z.App.cons)) ?_
            refine Z.s_val (Z.pv_assign rfl) ?_
            refine Z.j_fold (A := RowP rb r) (As := [Z.cl rb 29 [vO o, eO o, .int .i64 r.last], Z.MapV (vO o) Cell.e (Value.int .i64) r.ver, Z.MapV (eO o) Cell.e Value.bool r.ev]) (by repeat (first | with_reducible exact Z.Takes.nil | (apply Z.Takes.cons; (repeat (first | with_reducible exact Z.Take.here | apply Z.Take.there))))) (fun _ H => ⟨o, H⟩) ?_
            refine Z.j_nil ?_
            refine Z.j_blk ?_
            refine Z.j_then ?_
            refine Z.j_region ?_
            refine Z.s_val (Z.pv_add rfl rfl (by first | exact IntWalk.i64_in _ (by omega) | rfl)) ?_
            refine Z.s_val (Z.pv_move rfl) ?_
            refine Z.j_nil ?_
            refine Z.j_then ?_
            refine Z.j_own (T := 36) (k := 2) (m := r.ver.length) (cap := cap) (c := ((sortC r.ver).flatMap Cell.c)) (sp := sp) (by repeat (first | with_reducible exact Z.Take.here | apply Z.Take.there)) e2 e3 ?_
            rw [← e1]
            first
            | (refine Z.j_cast (A := Z.Own 3 1 (ρ 8) ((outs r.ver a i).length + 1) (i64s (outs r.ver a i) ++ [.int .i64 (fV r.ver (sAt r.ver i))])) (B := Z.Own 3 1 (ρ 8) (outs r.ver a (i + 1)).length (i64s (outs r.ver a (i + 1)))) (by repeat (first | with_reducible exact Z.Take.here | apply Z.Take.there)) (by rw [hst, if_pos (show hasA a (sAt r.ver i) = true from hc17)]; simp) ?_)
            | (refine Z.j_cast (A := Z.Own 3 1 vo (outs r.ver a i).length (i64s (outs r.ver a i))) (B := Z.Own 3 1 vo (outs r.ver a (i + 1)).length (i64s (outs r.ver a (i + 1)))) (by repeat (first | with_reducible exact Z.Take.here | apply Z.Take.there)) (by rw [hst, if_neg (by rw [show hasA a (sAt r.ver i) = false from hc17]; decide), List.append_nil]) ?_)
            first | (refine Z.j_nextG (X := { x : (Nat) × (Value) // (x.1) ≤ r.ver.length }) (EE := (fun (x : { x : (Nat) × (Value) // (x.1) ≤ r.ver.length }) => [(0, .pointer (some ⟨rb, 0, none⟩)), (1, v), (5, (x.1.2)), (9, vS), (10, .int .i64 r.ver.length), (11, .int .i64 ((x.1.1) : Nat))])) (LL := (fun (x : { x : (Nat) × (Value) // (x.1) ≤ r.ver.length }) => [Z.Own 36 2 vS r.ver.length ((sortC r.ver).flatMap Cell.c), Z.Own 3 1 (x.1.2) (outs r.ver a (x.1.1)).length (i64s (outs r.ver a (x.1.1))), RowP rb r, Ap])) (μ := (fun (x : { x : (Nat) × (Value) // (x.1) ≤ r.ver.length }) => r.ver.length - (x.1.1))) (x := ⟨(i, vo), hinv⟩) ⟨(i + 1, ρ 8), by omega⟩ ?_ ?_ ?_; (show r.ver.length - (i + 1) < r.ver.length - i; omega); (exact (by repeat (first | exact trivial | refine ⟨rfl, ?_⟩))); (exact Z.st_td (by repeat (first | with_reducible exact Z.Takes.nil | (apply Z.Takes.cons; (repeat (first | with_reducible exact Z.Take.here | apply Z.Take.there))))) (by repeat (first | with_reducible exact Z.Drop.nil | apply Z.Drop.cons)))) | (refine Z.j_nextG (X := { x : (Nat) × (Value) // (x.1) ≤ r.ver.length }) (EE := (fun (x : { x : (Nat) × (Value) // (x.1) ≤ r.ver.length }) => [(0, .pointer (some ⟨rb, 0, none⟩)), (1, v), (5, (x.1.2)), (9, vS), (10, .int .i64 r.ver.length), (11, .int .i64 ((x.1.1) : Nat))])) (LL := (fun (x : { x : (Nat) × (Value) // (x.1) ≤ r.ver.length }) => [Z.Own 36 2 vS r.ver.length ((sortC r.ver).flatMap Cell.c), Z.Own 3 1 (x.1.2) (outs r.ver a (x.1.1)).length (i64s (outs r.ver a (x.1.1))), RowP rb r, Ap])) (μ := (fun (x : { x : (Nat) × (Value) // (x.1) ≤ r.ver.length }) => r.ver.length - (x.1.1))) (x := ⟨(i, vo), hinv⟩) ⟨(i + 1, vo), by omega⟩ ?_ ?_ ?_; (show r.ver.length - (i + 1) < r.ver.length - i; omega); (exact (by repeat (first | exact trivial | refine ⟨rfl, ?_⟩))); (exact Z.st_td (by repeat (first | with_reducible exact Z.Takes.nil | (apply Z.Takes.cons; (repeat (first | with_reducible exact Z.Take.here | apply Z.Take.there))))) (by repeat (first | with_reducible exact Z.Drop.nil | apply Z.Drop.cons))))
      · try (with_reducible first | replace hc17 := of_decide_eq_true hc17 | replace hc17 := of_decide_eq_false hc17 | replace hc17 := Z.nd_true hc17 | replace hc17 := Z.nd_false hc17 | replace hc17 := Z.nn_true hc17 | replace hc17 := Z.nn_false hc17 | replace hc17 := Z.nb_true hc17 | replace hc17 := Z.nb_false hc17)
        first
        | (exfalso; first | (cases hc17; done) | omega)
        | skip
          refine Z.j_skip ?_
          refine Z.j_blk ?_
          refine Z.j_then ?_
          refine Z.j_region ?_
          refine Z.s_val (Z.pv_add rfl rfl (by first | exact IntWalk.i64_in _ (by omega) | rfl)) ?_
          refine Z.s_val (Z.pv_move rfl) ?_
          refine Z.j_nil ?_
          refine Z.j_then ?_
          refine Z.j_own (T := 36) (k := 2) (m := r.ver.length) (cap := cap) (c := ((sortC r.ver).flatMap Cell.c)) (sp := sp) (by repeat (first | with_reducible exact Z.Take.here | apply Z.Take.there)) e2 e3 ?_
          rw [← e1]
          first
          | (refine Z.j_cast (A := Z.Own 3 1 (ρ 8) ((outs r.ver a i).length + 1) (i64s (outs r.ver a i) ++ [.int .i64 (fV r.ver (sAt r.ver i))])) (B := Z.Own 3 1 (ρ 8) (outs r.ver a (i + 1)).length (i64s (outs r.ver a (i + 1)))) (by repeat (first | with_reducible exact Z.Take.here | apply Z.Take.there)) (by rw [hst, if_pos (show hasA a (sAt r.ver i) = true from hc17)]; simp) ?_)
          | (refine Z.j_cast (A := Z.Own 3 1 vo (outs r.ver a i).length (i64s (outs r.ver a i))) (B := Z.Own 3 1 vo (outs r.ver a (i + 1)).length (i64s (outs r.ver a (i + 1)))) (by repeat (first | with_reducible exact Z.Take.here | apply Z.Take.there)) (by rw [hst, if_neg (by rw [show hasA a (sAt r.ver i) = false from hc17]; decide), List.append_nil]) ?_)
          first | (refine Z.j_nextG (X := { x : (Nat) × (Value) // (x.1) ≤ r.ver.length }) (EE := (fun (x : { x : (Nat) × (Value) // (x.1) ≤ r.ver.length }) => [(0, .pointer (some ⟨rb, 0, none⟩)), (1, v), (5, (x.1.2)), (9, vS), (10, .int .i64 r.ver.length), (11, .int .i64 ((x.1.1) : Nat))])) (LL := (fun (x : { x : (Nat) × (Value) // (x.1) ≤ r.ver.length }) => [Z.Own 36 2 vS r.ver.length ((sortC r.ver).flatMap Cell.c), Z.Own 3 1 (x.1.2) (outs r.ver a (x.1.1)).length (i64s (outs r.ver a (x.1.1))), RowP rb r, Ap])) (μ := (fun (x : { x : (Nat) × (Value) // (x.1) ≤ r.ver.length }) => r.ver.length - (x.1.1))) (x := ⟨(i, vo), hinv⟩) ⟨(i + 1, ρ 8), by omega⟩ ?_ ?_ ?_; (show r.ver.length - (i + 1) < r.ver.length - i; omega); (exact (by repeat (first | exact trivial | refine ⟨rfl, ?_⟩))); (exact Z.st_td (by repeat (first | with_reducible exact Z.Takes.nil | (apply Z.Takes.cons; (repeat (first | with_reducible exact Z.Take.here | apply Z.Take.there))))) (by repeat (first | with_reducible exact Z.Drop.nil | apply Z.Drop.cons)))) | (refine Z.j_nextG (X := { x : (Nat) × (Value) // (x.1) ≤ r.ver.length }) (EE := (fun (x : { x : (Nat) × (Value) // (x.1) ≤ r.ver.length }) => [(0, .pointer (some ⟨rb, 0, none⟩)), (1, v), (5, (x.1.2)), (9, vS), (10, .int .i64 r.ver.length), (11, .int .i64 ((x.1.1) : Nat))])) (LL := (fun (x : { x : (Nat) × (Value) // (x.1) ≤ r.ver.length }) => [Z.Own 36 2 vS r.ver.length ((sortC r.ver).flatMap Cell.c), Z.Own 3 1 (x.1.2) (outs r.ver a (x.1.1)).length (i64s (outs r.ver a (x.1.1))), RowP rb r, Ap])) (μ := (fun (x : { x : (Nat) × (Value) // (x.1) ≤ r.ver.length }) => r.ver.length - (x.1.1))) (x := ⟨(i, vo), hinv⟩) ⟨(i + 1, vo), by omega⟩ ?_ ?_ ?_; (show r.ver.length - (i + 1) < r.ver.length - i; omega); (exact (by repeat (first | exact trivial | refine ⟨rfl, ?_⟩))); (exact Z.st_td (by repeat (first | with_reducible exact Z.Takes.nil | (apply Z.Takes.cons; (repeat (first | with_reducible exact Z.Take.here | apply Z.Take.there))))) (by repeat (first | with_reducible exact Z.Drop.nil | apply Z.Drop.cons))))
  · try (with_reducible first | replace hc12 := of_decide_eq_true hc12 | replace hc12 := of_decide_eq_false hc12 | replace hc12 := Z.nd_true hc12 | replace hc12 := Z.nd_false hc12 | replace hc12 := Z.nn_true hc12 | replace hc12 := Z.nn_false hc12 | replace hc12 := Z.nb_true hc12 | replace hc12 := Z.nb_false hc12)
    first
    | (exfalso; first | (cases hc12; done) | omega)
    | skip
      rw [outs_end (show r.ver.length ≤ i by omega)]
      refine Z.j_exit ?_
      refine Z.j_then_exit ?_
      refine Z.j_then_exit ?_
      refine Z.j_blk_here rfl ?_
      refine Z.j_then ?_
      refine Z.j_seq ?_
      refine Z.j_region ?_
      refine Z.s_val (Z.pv_move rfl) ?_
      refine Z.s_val (Z.pv_assign rfl) ?_
      refine Z.j_nil ?_
      refine Z.j_then ?_
      refine Z.j_ret ?_
      refine Z.j_done_ret (Z.rv1 (Z.rv_tmp (t := 4) rfl)) ?_
      exact Z.post_of rfl (by repeat (first | with_reducible exact Z.Takes.nil | (apply Z.Takes.cons; (repeat (first | with_reducible exact Z.Take.here | apply Z.Take.there))))) (by repeat (first | with_reducible exact Z.Drop.nil | apply Z.Drop.cons))

end Go.Proofs.Ytleofndjeekalaa
