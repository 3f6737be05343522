/- Token: all sessions. -/
import Derived.Test.YtjilnmjjehkidaaS3
import Derived.KernelRfl
namespace Go.Proofs.Ytjilnmjjehkidaa
open Go Go.RowKit
set_option maxHeartbeats 4000000 in
set_option maxRecDepth 100000 in
theorem all1_spec (w0 : World) (tb b1 : Nat) (t : Tab) (hm : t.m.length ≤ 12) (l : Nat) (A : List (Int × Int) → Z.SP) (B : List (Int × Int) → Int × Int → Z.SP) (stop : List (Int × Int) → Int × Int → Bool) (hY : ∀ pre x suf, pre ++ x :: suf = pairs t → Z.YFnB Try.prog w0 l [.int .u64 x.1, .int .i64 x.2] [A pre] (!stop pre x) [match stop pre x with | true => B pre x | false => A (pre ++ [x])]) : Z.Fn Try.prog w0 22 [.func (.yield l) #[] #[], .pointer (some ⟨b1, 0, none⟩)] [Z.cl b1 25 [.pointer (some ⟨tb, 0, none⟩)], TabP tb t, A []] (fun _ Q => Q = [Z.cl b1 25 [.pointer (some ⟨tb, 0, none⟩)], TabP tb t, Z.finS A B stop (pairs t)]) := by
  refine Z.fn_enter (n := 28) Try.func22 rfl (by rfl) (by rfl) (fun Fr => ?_)
  refine Z.j_app (by repeat (first | exact Z.App.nil | apply Z.App.cons)) ?_
  refine Z.j_seq ?_
  refine Z.j_open (A := TabP tb t) (by repeat (first | with_reducible exact Z.Take.here | apply Z.Take.there)) (fun _ H => H) (fun mb => ?_)
  show Z.J _ _ _ _ (TabF tb mb t ++ _) _
  unfold TabF
  refine Z.j_app (by repeat (first | exact Z.App.nil | apply Z.App.cons)) ?_
  refine Z.j_region ?_
  refine Z.s_val (Z.pv_load1 rfl (by repeat (first | with_reducible exact Z.Take.here | apply Z.Take.there)) Try.isAgg25 (by rfl)) ?_
  refine Z.s_val (Z.pv_nil rfl) ?_
  refine Z.s_val (Z.pv_fieldAddr rfl Try.underlying54 rfl Try.sizeOf52 rfl) ?_
  refine Z.s_val (Z.pv_load1 rfl (by repeat (first | with_reducible exact Z.Take.here | apply Z.Take.there)) Try.isAgg52 (by rfl)) ?_
  refine Z.s_call rfl rfl rfl isFn24 (by repeat (first | with_reducible exact Z.Takes.nil | (apply Z.Takes.cons; (repeat (first | with_reducible exact Z.Take.here | apply Z.Take.there))))) (keys_spec _ _) ?_
  rintro _ _ ⟨kb, rfl, rfl⟩
  refine Z.j_app (by repeat (first | exact Z.App.nil | apply Z.App.cons)) ?_
  refine Z.s_call rfl rfl rfl isFn23 (by repeat (first | with_reducible exact Z.Takes.nil | (apply Z.Takes.cons; (repeat (first | with_reducible exact Z.Take.here | apply Z.Take.there))))) (sorted_spec _ _ _ _ hm) ?_
  rintro v10 _ rfl
  refine Z.j_app (by repeat (first | exact Z.App.nil | apply Z.App.cons)) ?_
  refine Z.s_val (Z.pv_lenO rfl (by repeat (first | with_reducible exact Z.Take.here | apply Z.Take.there)) Try.underlying42) ?_
  refine Z.s_val (Z.pv_move rfl) ?_
  refine Z.j_nil ?_
  refine Z.j_then ?_
  refine Z.j_block ?_
  refine Z.j_cast (A := A []) (B := A ((pairs t).take 0)) (by repeat (first | with_reducible exact Z.Take.here | apply Z.Take.there)) (by rw [List.take_zero]) ?_
  refine Z.j_initF (E' := [(0, .func (.yield l) #[] #[]), (1, .pointer (some ⟨b1, 0, none⟩)), (10, v10), (11, .int .i64 t.m.length), (12, .int .i64 ((0) : Nat))]) (As := [Z.Own 31 1 v10 t.m.length (u64s (sortL (keys t.m))), Z.cl tb 54 [.map (some mb), .int .i64 t.most, .int .i64 t.idle, .int .i64 t.abs], Z.MapP mb (Value.int .u64) Sess.e t.m, Z.cl b1 25 [.pointer (some ⟨tb, 0, none⟩)], A ((pairs t).take (0))]) (Fr := Fr) (by repeat (first | exact trivial | refine ⟨rfl, ?_⟩)) (by repeat (first | with_reducible exact Z.Takes.nil | (apply Z.Takes.cons; (repeat (first | with_reducible exact Z.Take.here | apply Z.Take.there))))) (by repeat (first | with_reducible exact Z.Drop.nil | apply Z.Drop.cons)) ?_
  refine Z.j_loop (X := { x : (Nat) // (x) ≤ t.m.length ∧ Z.fst stop [] (pairs t) = Z.fst stop ((pairs t).take (x)) ((pairs t).drop (x)) }) (fun (x : { x : (Nat) // (x) ≤ t.m.length ∧ Z.fst stop [] (pairs t) = Z.fst stop ((pairs t).take (x)) ((pairs t).drop (x)) }) => [(0, .func (.yield l) #[] #[]), (1, .pointer (some ⟨b1, 0, none⟩)), (10, v10), (11, .int .i64 t.m.length), (12, .int .i64 ((x.1) : Nat))]) (fun x => (fun (x : { x : (Nat) // (x) ≤ t.m.length ∧ Z.fst stop [] (pairs t) = Z.fst stop ((pairs t).take (x)) ((pairs t).drop (x)) }) => [Z.Own 31 1 v10 t.m.length (u64s (sortL (keys t.m))), Z.cl tb 54 [.map (some mb), .int .i64 t.most, .int .i64 t.idle, .int .i64 t.abs], Z.MapP mb (Value.int .u64) Sess.e t.m, Z.cl b1 25 [.pointer (some ⟨tb, 0, none⟩)], A ((pairs t).take (x.1))]) x ++ Fr) (fun (x : { x : (Nat) // (x) ≤ t.m.length ∧ Z.fst stop [] (pairs t) = Z.fst stop ((pairs t).take (x)) ((pairs t).drop (x)) }) => t.m.length - (x.1)) ⟨(0), ⟨by omega, rfl⟩⟩ (fun x => ?_)
  obtain ⟨i, hinv⟩ := x
  have hinv' : i ≤ t.m.length ∧ Z.fst stop [] (pairs t) = Z.fst stop ((pairs t).take i) ((pairs t).drop i) := hinv
  obtain ⟨hi, hf⟩ := hinv'
  show Z.J _ _ _ ([(0, .func (.yield l) #[] #[]), (1, .pointer (some ⟨b1, 0, none⟩)), (10, v10), (11, .int .i64 t.m.length), (12, .int .i64 (i : Nat))]) ([Z.Own 31 1 v10 t.m.length (u64s (sortL (keys t.m))), Z.cl tb 54 [.map (some mb), .int .i64 t.most, .int .i64 t.idle, .int .i64 t.abs], Z.MapP mb (Value.int .u64) Sess.e t.m, Z.cl b1 25 [.pointer (some ⟨tb, 0, none⟩)], A ((pairs t).take i)] ++ Fr) _
  refine Z.j_app (by repeat (first | exact Z.App.nil | apply Z.App.cons)) ?_
  refine Z.j_seq ?_
  refine Z.j_region ?_
  refine Z.s_val (Z.pv_lss rfl rfl) ?_
  refine Z.j_nil ?_
  refine Z.j_then ?_
  refine Z.j_seq ?_
  refine Z.j_cond rfl (fun hc13 => ?_) (fun hc13 => ?_)
  · try (with_reducible first | replace hc13 := of_decide_eq_true hc13 | replace hc13 := of_decide_eq_false hc13 | replace hc13 := Z.nd_true hc13 | replace hc13 := Z.nd_false hc13 | replace hc13 := Z.nn_true hc13 | replace hc13 := Z.nn_false hc13 | replace hc13 := Z.nb_true hc13 | replace hc13 := Z.nb_false hc13)
    first
    | (exfalso; first | (cases hc13; done) | omega)
    | skip
      refine Z.j_skip ?_
      refine Z.j_then ?_
      refine Z.j_seq ?_
      refine Z.j_block ?_
      refine Z.j_seq ?_
      refine Z.j_unown (T := 31) (k := 1) (by repeat (first | with_reducible exact Z.Take.here | apply Z.Take.there)) (fun e1 e2 e3 => by exfalso; omega) (fun nb cap sp e1 e2 e3 => ?_)
      refine Z.j_region ?_
      refine Z.s_val (Z.pv_indexAddr (o' := i) (b := nb) (o := 0) (len := t.m.length) (cap := cap) (by show some v10 = _; rw [e1]) rfl Try.underlying42 Try.sizeOf31 (by omega) (by simp)) ?_
      refine Z.s_val (Z.pv_load1 (v := .int .u64 (kAt t i)) rfl (by repeat (first | with_reducible exact Z.Take.here | apply Z.Take.there)) Try.isAgg31 (get_l (by rw [sort_len]; omega))) ?_
      refine Z.s_val (Z.pv_assign rfl) ?_
      refine Z.j_nil ?_
      refine Z.j_then ?_
      refine Z.j_seq ?_
      refine Z.j_region ?_
      refine Z.s_val (Z.pv_move rfl) ?_
      refine Z.s_val (Z.pv_move rfl) ?_
      refine Z.s_val (Z.pv_load1 rfl (by repeat (first | with_reducible exact Z.Take.here | apply Z.Take.there)) Try.isAgg25 (by rfl)) ?_
      refine Z.s_val (Z.pv_nil rfl) ?_
      refine Z.s_val (Z.pv_fieldAddr rfl Try.underlying54 rfl Try.sizeOf52 rfl) ?_
      refine Z.s_val (Z.pv_load1 rfl (by repeat (first | with_reducible exact Z.Take.here | apply Z.Take.there)) Try.isAgg52 (by rfl)) ?_
      refine Z.s_val (Z.pv_move rfl) ?_
      refine Z.s_val (Z.pv_lookupZ (k := kAt t i) (venc := Sess.e) (m := t.m) Sess.z rfl rfl Try.underlying52 kU64 Try.zeroValue56 (by repeat (first | with_reducible exact Z.Take.here | apply Z.Take.there))) ?_
      refine Z.s_val (Z.pv_field1 rfl Try.underlying56 rfl Try.isAgg3 rfl) ?_
      refine Z.s_yieldS (b := stop ((pairs t).take i) (pAt t i)) (S1 := B ((pairs t).take i) (pAt t i)) (S2 := A ((pairs t).take i ++ [pAt t i])) rfl rfl (by repeat (first | with_reducible exact Z.Takes.nil | (apply Z.Takes.cons; (repeat (first | with_reducible exact Z.Take.here | apply Z.Take.there))))) (hY _ _ ((pairs t).drop (i + 1)) (pairs_at (by omega))) (fun hst => ?_) (fun hst => ?_)
      · skip
        refine Z.s_val (Z.pv_not rfl) ?_
        refine Z.j_nil ?_
        refine Z.j_then ?_
        refine Z.j_cond rfl (fun hc26 => ?_) (fun hc26 => ?_)
        · try (with_reducible first | replace hc26 := of_decide_eq_true hc26 | replace hc26 := of_decide_eq_false hc26 | replace hc26 := Z.nd_true hc26 | replace hc26 := Z.nd_false hc26 | replace hc26 := Z.nn_true hc26 | replace hc26 := Z.nn_false hc26 | replace hc26 := Z.nb_true hc26 | replace hc26 := Z.nb_false hc26)
          first
          | (exfalso; first | (cases hc26; done) | omega)
          | skip
            refine Z.j_ret ?_
            refine Z.j_blk_ret ?_
            refine Z.j_then_ret ?_
            refine Z.j_then_ret ?_
            refine Z.j_blk_ret ?_
            refine Z.j_fold (A := TabP tb t) (As := TabF tb mb t) (by repeat (first | with_reducible exact Z.Takes.nil | (apply Z.Takes.cons; (repeat (first | with_reducible exact Z.Take.here | apply Z.Take.there))))) (fun _ H => ⟨mb, H⟩) ?_
            refine Z.j_done_ret Z.rv0 ?_
            first | exact Z.post_of (Qs := [Z.cl b1 25 [.pointer (some ⟨tb, 0, none⟩)], TabP tb t, B ((pairs t).take i) (pAt t i)]) (by rw [Z.finS_stop (pairs_stop (by omega) hf hst)]) (by repeat (first | with_reducible exact Z.Takes.nil | (apply Z.Takes.cons; (repeat (first | with_reducible exact Z.Take.here | apply Z.Take.there))))) (by repeat (first | with_reducible exact Z.Drop.nil | apply Z.Drop.cons)) | exact Z.post_of (Qs := [Z.cl b1 25 [.pointer (some ⟨tb, 0, none⟩)], TabP tb t, A (pairs t)]) (by rw [Z.finS_end hfe]) (by repeat (first | with_reducible exact Z.Takes.nil | (apply Z.Takes.cons; (repeat (first | with_reducible exact Z.Take.here | apply Z.Take.there))))) (by repeat (first | with_reducible exact Z.Drop.nil | apply Z.Drop.cons))
        · try (with_reducible first | replace hc26 := of_decide_eq_true hc26 | replace hc26 := of_decide_eq_false hc26 | replace hc26 := Z.nd_true hc26 | replace hc26 := Z.nd_false hc26 | replace hc26 := Z.nn_true hc26 | replace hc26 := Z.nn_false hc26 | replace hc26 := Z.nb_true hc26 | replace hc26 := Z.nb_false hc26)
          first
          | (exfalso; first | (cases hc26; done) | omega)
          | skip
            refine Z.j_skip ?_
            refine Z.j_blk ?_
            refine Z.j_then ?_
            refine Z.j_region ?_
            refine Z.s_val (Z.pv_add rfl rfl (by first | exact IntWalk.i64_in _ (by omega) | rfl)) ?_
            refine Z.s_val (Z.pv_move rfl) ?_
            refine Z.j_nil ?_
            refine Z.j_then ?_
            refine Z.j_own (T := 31) (k := 1) (m := t.m.length) (cap := cap) (c := (u64s (sortL (keys t.m)))) (sp := sp) (by repeat (first | with_reducible exact Z.Take.here | apply Z.Take.there)) e2 e3 ?_
            rw [← e1, pairs_snoc (by omega)]
            (refine Z.j_nextG (X := { x : (Nat) // (x) ≤ t.m.length ∧ Z.fst stop [] (pairs t) = Z.fst stop ((pairs t).take (x)) ((pairs t).drop (x)) }) (EE := (fun (x : { x : (Nat) // (x) ≤ t.m.length ∧ Z.fst stop [] (pairs t) = Z.fst stop ((pairs t).take (x)) ((pairs t).drop (x)) }) => [(0, .func (.yield l) #[] #[]), (1, .pointer (some ⟨b1, 0, none⟩)), (10, v10), (11, .int .i64 t.m.length), (12, .int .i64 ((x.1) : Nat))])) (LL := (fun (x : { x : (Nat) // (x) ≤ t.m.length ∧ Z.fst stop [] (pairs t) = Z.fst stop ((pairs t).take (x)) ((pairs t).drop (x)) }) => [Z.Own 31 1 v10 t.m.length (u64s (sortL (keys t.m))), Z.cl tb 54 [.map (some mb), .int .i64 t.most, .int .i64 t.idle, .int .i64 t.abs], Z.MapP mb (Value.int .u64) Sess.e t.m, Z.cl b1 25 [.pointer (some ⟨tb, 0, none⟩)], A ((pairs t).take (x.1))])) (μ := (fun (x : { x : (Nat) // (x) ≤ t.m.length ∧ Z.fst stop [] (pairs t) = Z.fst stop ((pairs t).take (x)) ((pairs t).drop (x)) }) => t.m.length - (x.1))) (x := ⟨(i), hinv⟩) ⟨(i + 1), ⟨by omega, pairs_go (by omega) hf hst⟩⟩ ?_ ?_ ?_; (show t.m.length - (i + 1) < t.m.length - i; omega); (exact (by repeat (first | exact trivial | refine ⟨rfl, ?_⟩))); (exact Z.st_td (by repeat (first | with_reducible exact Z.Takes.nil | (apply Z.Takes.cons; (repeat (first | with_reducible exact Z.Take.here | apply Z.Take.there))))) (by repeat (first | with_reducible exact Z.Drop.nil | apply Z.Drop.cons))))
      · skip
        refine Z.s_val (Z.pv_not rfl) ?_
        refine Z.j_nil ?_
        refine Z.j_then ?_
        refine Z.j_cond rfl (fun hc26 => ?_) (fun hc26 => ?_)
        · try (with_reducible first | replace hc26 := of_decide_eq_true hc26 | replace hc26 := of_decide_eq_false hc26 | replace hc26 := Z.nd_true hc26 | replace hc26 := Z.nd_false hc26 | replace hc26 := Z.nn_true hc26 | replace hc26 := Z.nn_false hc26 | replace hc26 := Z.nb_true hc26 | replace hc26 := Z.nb_false hc26)
          first
          | (exfalso; first | (cases hc26; done) | omega)
          | skip
            refine Z.j_ret ?_
            refine Z.j_blk_ret ?_
            refine Z.j_then_ret ?_
            refine Z.j_then_ret ?_
            refine Z.j_blk_ret ?_
            refine Z.j_fold (A := TabP tb t) (As := TabF tb mb t) (by repeat (first | with_reducible exact Z.Takes.nil | (apply Z.Takes.cons; (repeat (first | with_reducible exact Z.Take.here | apply Z.Take.there))))) (fun _ H => ⟨mb, H⟩) ?_
            refine Z.j_done_ret Z.rv0 ?_
            first | exact Z.post_of (Qs := [Z.cl b1 25 [.pointer (some ⟨tb, 0, none⟩)], TabP tb t, B ((pairs t).take i) (pAt t i)]) (by rw [Z.finS_stop (pairs_stop (by omega) hf hst)]) (by repeat (first | with_reducible exact Z.Takes.nil | (apply Z.Takes.cons; (repeat (first | with_reducible exact Z.Take.here | apply Z.Take.there))))) (by repeat (first | with_reducible exact Z.Drop.nil | apply Z.Drop.cons)) | exact Z.post_of (Qs := [Z.cl b1 25 [.pointer (some ⟨tb, 0, none⟩)], TabP tb t, A (pairs t)]) (by rw [Z.finS_end hfe]) (by repeat (first | with_reducible exact Z.Takes.nil | (apply Z.Takes.cons; (repeat (first | with_reducible exact Z.Take.here | apply Z.Take.there))))) (by repeat (first | with_reducible exact Z.Drop.nil | apply Z.Drop.cons))
        · try (with_reducible first | replace hc26 := of_decide_eq_true hc26 | replace hc26 := of_decide_eq_false hc26 | replace hc26 := Z.nd_true hc26 | replace hc26 := Z.nd_false hc26 | replace hc26 := Z.nn_true hc26 | replace hc26 := Z.nn_false hc26 | replace hc26 := Z.nb_true hc26 | replace hc26 := Z.nb_false hc26)
          first
          | (exfalso; first | (cases hc26; done) | omega)
          | skip
            refine Z.j_skip ?_
            refine Z.j_blk ?_
            refine Z.j_then ?_
            refine Z.j_region ?_
            refine Z.s_val (Z.pv_add rfl rfl (by first | exact IntWalk.i64_in _ (by omega) | rfl)) ?_
            refine Z.s_val (Z.pv_move rfl) ?_
            refine Z.j_nil ?_
            refine Z.j_then ?_
            refine Z.j_own (T := 31) (k := 1) (m := t.m.length) (cap := cap) (c := (u64s (sortL (keys t.m)))) (sp := sp) (by repeat (first | with_reducible exact Z.Take.here | apply Z.Take.there)) e2 e3 ?_
            rw [← e1, pairs_snoc (by omega)]
            (refine Z.j_nextG (X := { x : (Nat) // (x) ≤ t.m.length ∧ Z.fst stop [] (pairs t) = Z.fst stop ((pairs t).take (x)) ((pairs t).drop (x)) }) (EE := (fun (x : { x : (Nat) // (x) ≤ t.m.length ∧ Z.fst stop [] (pairs t) = Z.fst stop ((pairs t).take (x)) ((pairs t).drop (x)) }) => [(0, .func (.yield l) #[] #[]), (1, .pointer (some ⟨b1, 0, none⟩)), (10, v10), (11, .int .i64 t.m.length), (12, .int .i64 ((x.1) : Nat))])) (LL := (fun (x : { x : (Nat) // (x) ≤ t.m.length ∧ Z.fst stop [] (pairs t) = Z.fst stop ((pairs t).take (x)) ((pairs t).drop (x)) }) => [Z.Own 31 1 v10 t.m.length (u64s (sortL (keys t.m))), Z.cl tb 54 [.map (some mb), .int .i64 t.most, .int .i64 t.idle, .int .i64 t.abs], Z.MapP mb (Value.int .u64) Sess.e t.m, Z.cl b1 25 [.pointer (some ⟨tb, 0, none⟩)], A ((pairs t).take (x.1))])) (μ := (fun (x : { x : (Nat) // (x) ≤ t.m.length ∧ Z.fst stop [] (pairs t) = Z.fst stop ((pairs t).take (x)) ((pairs t).drop (x)) }) => t.m.length - (x.1))) (x := ⟨(i), hinv⟩) ⟨(i + 1), ⟨by omega, pairs_go (by omega) hf hst⟩⟩ ?_ ?_ ?_; (show t.m.length - (i + 1) < t.m.length - i; omega); (exact (by repeat (first | exact trivial | refine ⟨rfl, ?_⟩))); (exact Z.st_td (by repeat (first | with_reducible exact Z.Takes.nil | (apply Z.Takes.cons; (repeat (first | with_reducible exact Z.Take.here | apply Z.Take.there))))) (by repeat (first | with_reducible exact Z.Drop.nil | apply Z.Drop.cons))))
  · try (with_reducible first | replace hc13 := of_decide_eq_true hc13 | replace hc13 := of_decide_eq_false hc13 | replace hc13 := Z.nd_true hc13 | replace hc13 := Z.nd_false hc13 | replace hc13 := Z.nn_true hc13 | replace hc13 := Z.nn_false hc13 | replace hc13 := Z.nb_true hc13 | replace hc13 := Z.nb_false hc13)
    first
    | (exfalso; first | (cases hc13; done) | omega)
    | skip
      have hfe := pairs_end (by omega) hf
      rw [List.take_of_length_le (by rw [pairs_len]; omega)]
      refine Z.j_exit ?_
      refine Z.j_then_exit ?_
      refine Z.j_then_exit ?_
      refine Z.j_blk_here rfl ?_
      refine Z.j_fold (A := TabP tb t) (As := TabF tb mb t) (by repeat (first | with_reducible exact Z.Takes.nil | (apply Z.Takes.cons; (repeat (first | with_reducible exact Z.Take.here | apply Z.Take.there))))) (fun _ H => ⟨mb, H⟩) ?_
      refine Z.j_done Z.rv0 ?_
      first | exact Z.post_of (Qs := [Z.cl b1 25 [.pointer (some ⟨tb, 0, none⟩)], TabP tb t, B ((pairs t).take i) (pAt t i)]) (by rw [Z.finS_stop (pairs_stop (by omega) hf hst)]) (by repeat (first | with_reducible exact Z.Takes.nil | (apply Z.Takes.cons; (repeat (first | with_reducible exact Z.Take.here | apply Z.Take.there))))) (by repeat (first | with_reducible exact Z.Drop.nil | apply Z.Drop.cons)) | exact Z.post_of (Qs := [Z.cl b1 25 [.pointer (some ⟨tb, 0, none⟩)], TabP tb t, A (pairs t)]) (by rw [Z.finS_end hfe]) (by repeat (first | with_reducible exact Z.Takes.nil | (apply Z.Takes.cons; (repeat (first | with_reducible exact Z.Take.here | apply Z.Take.there))))) (by repeat (first | with_reducible exact Z.Drop.nil | apply Z.Drop.cons))


theorem all_iter (w0 : World) (tb b1 : Nat) (t : Tab) (hm : t.m.length ≤ 12) : Z.IterS Try.prog w0 22 [.pointer (some ⟨b1, 0, none⟩)] (fun x : Int × Int => [.int .u64 x.1, .int .i64 x.2]) (pairs t) [Z.cl b1 25 [.pointer (some ⟨tb, 0, none⟩)], TabP tb t] [Z.cl b1 25 [.pointer (some ⟨tb, 0, none⟩)], TabP tb t] :=
  fun l A B stop hY => all1_spec w0 tb b1 t hm l A B stop hY

set_option maxHeartbeats 4000000 in
set_option maxRecDepth 100000 in
theorem sessions_spec (w0 : World) (tb : Nat) (t : Tab) (most : Int) (hm : t.m.length ≤ 12) : Z.Fn Try.prog w0 15 [.pointer (some ⟨tb, 0, none⟩), .int .i64 most] [TabP tb t] (fun v Q => ∃ vx vy, v = .tuple #[vx, vy] ∧ Q = [TabP tb t, Z.Own 31 1 vx (ss t most).length (u64s ((ss t most).map (·.1))), Z.Own 3 1 vy (ss t most).length (i64s ((ss t most).map (·.2)))]) := by
  refine Z.fn_enterM (n := 36) Try.func15 rfl (by rfl) (by rfl) (fun Fr => ?_)
  refine Z.j_app (by repeat (first | exact Z.App.nil | apply Z.App.cons)) ?_
  refine Z.j_seq ?_
  refine Z.j_region ?_
  refine Z.s_box1 rfl rfl (fun b3 => ?_)
  refine Z.s_alloc1 Try.zeroValue42 rfl (fun b4 => ?_)
  refine Z.s_alloc1 Try.zeroValue44 rfl (fun b5 => ?_)
  refine Z.j_nil ?_
  refine Z.j_then ?_
  refine Z.j_seq ?_
  refine Z.j_region ?_
  refine Z.s_buildSlice rfl Try.underlying42 Try.zeroValue31 Try.sizeOf31 rfl rfl rfl rfl (fun b10 => ?_)
  refine Z.s_buildSlice rfl Try.underlying44 Try.zeroValue3 Try.sizeOf3 rfl rfl rfl rfl (fun b11 => ?_)
  refine Z.s_alloc1 Try.zeroValue42 rfl (fun b6 => ?_)
  refine Z.s_alloc1 Try.zeroValue44 rfl (fun b7 => ?_)
  refine Z.s_store1 rfl rfl (by first | rfl | assumption) Try.sizeOf42 (by repeat (first | with_reducible exact Z.Upd.here | apply Z.Upd.there)) (by rfl) ?_
  refine Z.s_store1 rfl rfl (by first | rfl | assumption) Try.sizeOf44 (by repeat (first | with_reducible exact Z.Upd.here | apply Z.Upd.there)) (by rfl) ?_
  refine Z.j_nil ?_
  refine Z.j_then ?_
  refine Z.j_seq ?_
  refine Z.j_seq ?_
  refine Z.j_region ?_
  refine Z.s_val (Z.pv_load1 rfl (by repeat (first | with_reducible exact Z.Take.here | apply Z.Take.there)) Try.isAgg3 (by rfl)) ?_
  refine Z.s_val (Z.pv_leq rfl rfl) ?_
  refine Z.j_nil ?_
  refine Z.j_then ?_
  refine Z.j_cond rfl (fun hc13 => ?_) (fun hc13 => ?_)
  · try (with_reducible first | replace hc13 := of_decide_eq_true hc13 | replace hc13 := of_decide_eq_false hc13 | replace hc13 := Z.nd_true hc13 | replace hc13 := Z.nd_false hc13 | replace hc13 := Z.nn_true hc13 | replace hc13 := Z.nn_false hc13 | replace hc13 := Z.nb_true hc13 | replace hc13 := Z.nb_false hc13)
    first
    | (exfalso; first | (cases hc13; done) | omega)
    | skip
      refine Z.j_seq ?_
      refine Z.j_drawC (vals := [_, _, _, _]) 4 [2, 3] [.pin 0, .fl, .ch 0, .ch 1] [Z.cl b7 _ _] [_, _, _] (by kernel_rfl) (by kernel_rfl) (by kernel_rfl) rfl (by rfl) rfl (by repeat (first | with_reducible exact Z.Takes.nil | (apply Z.Takes.cons; (repeat (first | with_reducible exact Z.Take.here | apply Z.Take.there))))) (Z.hc_cons (Z.hk_pin (by rfl) (Z.pv_load1 (by rfl) (by repeat (first | with_reducible exact Z.Take.here | apply Z.Take.there)) Try.isAgg42 (by rfl))) (Z.hc_cons (Z.hk_fl (Z.pv_load1 (by rfl) (by repeat (first | with_reducible exact Z.Take.here | apply Z.Take.there)) Try.isAgg44 (by rfl))) (Z.hc_cons (Z.hk_store1 (by rfl) (by rfl) (by rfl) (by first | rfl | assumption) (by exact Try.sizeOf42) (by repeat (first | with_reducible exact Z.Upd.here | apply Z.Upd.there)) (by rfl) (by rfl)) (Z.hc_cons (Z.hk_store1 (by rfl) (by rfl) (by rfl) (by first | rfl | assumption) (by exact Try.sizeOf44) (by repeat (first | with_reducible exact Z.Upd.here | apply Z.Upd.there)) (by rfl) (by rfl)) Z.hc_nil)))) (Z.Holds.cons (by repeat (first | with_reducible exact Z.Takes.nil | (apply Z.Takes.cons; (repeat (first | with_reducible exact Z.Take.here | apply Z.Take.there))))) (Z.Holds.cons (by repeat (first | with_reducible exact Z.Takes.nil | (apply Z.Takes.cons; (repeat (first | with_reducible exact Z.Take.here | apply Z.Take.there))))) (Z.Holds.cons (by repeat (first | with_reducible exact Z.Takes.nil | (apply Z.Takes.cons; (repeat (first | with_reducible exact Z.Take.here | apply Z.Take.there))))) Z.Holds.nil))) rfl rfl ?_
      refine Z.J.own_mk (T := 31) (k := 1) (m := 0) (b := b10) (by repeat (first | with_reducible exact Z.Take.here | apply Z.Take.there)) rfl ?_
      refine Z.J.own_mk (T := 3) (k := 1) (m := 0) (b := b11) (by repeat (first | with_reducible exact Z.Take.here | apply Z.Take.there)) rfl ?_
      refine Z.j_nil ?_
      refine Z.j_then ?_
      refine Z.j_ret ?_
      refine Z.j_then_ret ?_
      refine Z.j_doneM_ret (bs := []) .nil (Z.rv2 (Z.rv_cell1 (x := 4) (T := 42) rfl (by repeat (first | with_reducible exact Z.Take.here | apply Z.Take.there)) Try.isAgg42 (by rfl)) (Z.rv_cell1 (x := 5) (T := 44) rfl (by repeat (first | with_reducible exact Z.Take.here | apply Z.Take.there)) Try.isAgg44 (by rfl))) ?_
      first | exact Z.post_of (Qs := [TabP tb t, Z.Own 31 1 (.slice (some ⟨b10, 0, none⟩) 0 0) 0 [], Z.Own 3 1 (.slice (some ⟨b11, 0, none⟩) 0 0) 0 []]) ⟨_, _, rfl, by rw [ss_nil hc13]; rfl⟩ (by repeat (first | with_reducible exact Z.Takes.nil | (apply Z.Takes.cons; (repeat (first | with_reducible exact Z.Take.here | apply Z.Take.there))))) (by repeat (first | with_reducible exact Z.Drop.nil | apply Z.Drop.cons)) | exact Z.post_of ⟨vx, vy, rfl, by rw [ss_end hc13 hfs0]⟩ (by repeat (first | with_reducible exact Z.Takes.nil | (apply Z.Takes.cons; (repeat (first | with_reducible exact Z.Take.here | apply Z.Take.there))))) (by repeat (first | with_reducible exact Z.Drop.nil | apply Z.Drop.cons)) | exact Z.post_of ⟨vx, vy, rfl, by rw [ss_ret hc13 hfs0]⟩ (by repeat (first | with_reducible exact Z.Takes.nil | (apply Z.Takes.cons; (repeat (first | with_reducible exact Z.Take.here | apply Z.Take.there))))) (by repeat (first | with_reducible exact Z.Drop.nil | apply Z.Drop.cons))
  · try (with_reducible first | replace hc13 := of_decide_eq_true hc13 | replace hc13 := of_decide_eq_false hc13 | replace hc13 := Z.nd_true hc13 | replace hc13 := Z.nd_false hc13 | replace hc13 := Z.nn_true hc13 | replace hc13 := Z.nn_false hc13 | replace hc13 := Z.nb_true hc13 | replace hc13 := Z.nb_false hc13)
    first
    | (exfalso; first | (cases hc13; done) | omega)
    | skip
      refine Z.j_skip ?_
      refine Z.j_then ?_
      refine Z.j_seq ?_
      refine Z.j_seq ?_
      refine Z.j_region ?_
      refine Z.s_val (Z.pv_move rfl) ?_
      refine Z.s_call rfl rfl rfl isFn20 (by repeat (first | with_reducible exact Z.Takes.nil | (apply Z.Takes.cons; (repeat (first | with_reducible exact Z.Take.here | apply Z.Take.there))))) (all_spec _ _) ?_
      rintro _ _ ⟨ab, rfl, rfl⟩
      refine Z.j_app (by repeat (first | exact Z.App.nil | apply Z.App.cons)) ?_
      refine Z.j_nil ?_
      refine Z.j_then ?_
      refine Z.j_block ?_
      refine Z.J.own_mk (T := 31) (k := 1) (m := 0) (b := b10) (by repeat (first | with_reducible exact Z.Take.here | apply Z.Take.there)) rfl ?_
      refine Z.J.own_mk (T := 3) (k := 1) (m := 0) (b := b11) (by repeat (first | with_reducible exact Z.Take.here | apply Z.Take.there)) rfl ?_
      refine Z.j_fold (A := S2 b6 b7 []) (As := [Z.cl b6 42 [.slice (some ⟨b10, 0, none⟩) 0 0], Z.cl b7 44 [.slice (some ⟨b11, 0, none⟩) 0 0], Z.Own 31 1 (.slice (some ⟨b10, 0, none⟩) 0 0) 0 [], Z.Own 3 1 (.slice (some ⟨b11, 0, none⟩) 0 0) 0 []]) (by repeat (first | with_reducible exact Z.Takes.nil | (apply Z.Takes.cons; (repeat (first | with_reducible exact Z.Take.here | apply Z.Take.there))))) (fun _ H => ⟨⟨(_, _), rfl, rfl⟩, H⟩) ?_
      refine Z.j_rangeFuncS (enc := (fun x : Int × Int => [.int .u64 x.1, .int .i64 x.2])) (xs := (pairs t)) (fun pre => [S2 b6 b7 pre, Z.cl b3 3 [.int .i64 most], Z.cl b4 42 [.slice none 0 0], Z.cl b5 44 [.slice none 0 0]]) (fun pre x => [(3, .pointer (some ⟨b3, 0, none⟩)), (4, .pointer (some ⟨b4, 0, none⟩)), (5, .pointer (some ⟨b5, 0, none⟩)), (6, .pointer (some ⟨b6, 0, none⟩)), (7, .pointer (some ⟨b7, 0, none⟩)), (8, .int .u64 x.1), (9, .int .i64 x.2)]) (fun pre x => [S2 b6 b7 pre, Z.cl b3 3 [.int .i64 most], Z.cl b4 42 [.slice none 0 0], Z.cl b5 44 [.slice none 0 0]]) (fun pre x => [S2 b4 b5 (pre ++ [x])]) (fun pre x => stopN most pre x) rfl isFn22 (fun _ => rfl) (by decide) (by repeat (first | with_reducible exact Z.Takes.nil | (apply Z.Takes.cons; (repeat (first | with_reducible exact Z.Take.here | apply Z.Take.there))))) (all_iter w0 tb ab t hm) (fun l0 pre x suf Fr0 hx0 => ?_) (fun l0 pre x suf Fr0 hx0 => ?_) (fun hfs0 bk0 => ?_) (fun pre x hfs0 bk0 => ?_)
      · show Z.J _ _ _ _ ([S2 b6 b7 pre, Z.cl b3 3 [.int .i64 most], Z.cl b4 42 [.slice none 0 0], Z.cl b5 44 [.slice none 0 0]] ++ Fr0) _
        refine Z.j_app (by repeat (first | exact Z.App.nil | apply Z.App.cons)) ?_
        refine Z.j_seq ?_
        refine Z.j_region ?_
        refine Z.s_val (Z.pv_assign rfl) ?_
        refine Z.j_nil ?_
        refine Z.j_then ?_
        refine Z.j_region ?_
        refine Z.s_val (Z.pv_assign rfl) ?_
        refine Z.j_nil ?_
        refine Z.j_then ?_
        exact Z.j_assigned (by repeat (first | exact trivial | refine ⟨rfl, ?_⟩)) (by repeat (first | with_reducible exact Z.Takes.nil | (apply Z.Takes.cons; (repeat (first | with_reducible exact Z.Take.here | apply Z.Take.there))))) (by repeat (first | with_reducible exact Z.Drop.nil | apply Z.Drop.cons))
      · show Z.J _ _ _ ([(3, .pointer (some ⟨b3, 0, none⟩)), (4, .pointer (some ⟨b4, 0, none⟩)), (5, .pointer (some ⟨b5, 0, none⟩)), (6, .pointer (some ⟨b6, 0, none⟩)), (7, .pointer (some ⟨b7, 0, none⟩)), (8, .int .u64 x.1), (9, .int .i64 x.2)]) ([S2 b6 b7 pre, Z.cl b3 3 [.int .i64 most], Z.cl b4 42 [.slice none 0 0], Z.cl b5 44 [.slice none 0 0]] ++ Fr0) _
        refine Z.j_app (by repeat (first | exact Z.App.nil | apply Z.App.cons)) ?_
        have hpl := pre_len hx0
        refine Z.j_open (A := S2 b6 b7 pre) (by repeat (first | with_reducible exact Z.Take.here | apply Z.Take.there)) (fun _ H => H) (fun p => ?_)
        obtain ⟨⟨vx, vy⟩, hvx, hvy⟩ := p
        show Z.J _ _ _ _ (S2F b6 b7 vx vy pre ++ _) _
        unfold S2F
        refine Z.j_app (by repeat (first | exact Z.App.nil | apply Z.App.cons)) ?_
        refine Z.j_block ?_
        refine Z.j_seq ?_
        refine Z.j_drawT [⟨none, (some 8), [0], fun ρ => Z.cl b6 42 [vx]⟩, ⟨none, (some 9), [4], fun ρ => Z.cl b7 44 [vy]⟩, ⟨none, (some 3), [], fun ρ => Z.Own 31 1 vx pre.length (u64s (pre.map (·.1)))⟩, ⟨none, (some 7), [], fun ρ => Z.Own 3 1 vy pre.length (i64s (pre.map (·.2)))⟩, ⟨(some 2), (some 3), [], fun ρ => Z.Own 31 1 (ρ 2) 1 [.int .u64 x.1]⟩, ⟨(some 3), (some 8), [], fun ρ => Z.Own 31 1 (ρ 3) (pre.length + 1) ((u64s (pre.map (·.1))) ++ [.int .u64 x.1])⟩, ⟨(some 6), (some 7), [], fun ρ => Z.Own 3 1 (ρ 6) 1 [.int .i64 x.2]⟩, ⟨(some 7), (some 9), [], fun ρ => Z.Own 3 1 (ρ 7) (pre.length + 1) ((i64s (pre.map (·.2))) ++ [.int .i64 x.2])⟩, ⟨(some 8), none, [], fun ρ => Z.cl b6 42 [ρ 3]⟩, ⟨(some 8), none, [], fun ρ => Z.Own 31 1 (ρ 3) (pre.length + 1) ((u64s (pre.map (·.1))) ++ [.int .u64 x.1])⟩, ⟨(some 9), none, [], fun ρ => Z.cl b7 44 [ρ 7]⟩, ⟨(some 9), none, [], fun ρ => Z.Own 3 1 (ρ 7) (pre.length + 1) ((i64s (pre.map (·.2))) ++ [.int .i64 x.2])⟩] [2, 3, 6, 7, 8, 9] (fun ρ => [vx, .int .u64 x.1, ρ 2, ρ 3, vy, .int .i64 x.2, ρ 6, ρ 7, ρ 8, ρ 9]) (by kernel_rfl) (by kernel_rfl) (by rfl) (fun _ => rfl) ⟨fun _ => rfl, fun _ _ => rfl, fun _ _ => rfl, ⟨fun _ => rfl, fun _ _ => rfl, fun _ _ => rfl, ⟨fun _ => rfl, fun _ _ => rfl, fun _ _ => rfl, ⟨fun _ => rfl, fun _ _ => rfl, fun _ _ => rfl, ⟨fun _ => rfl, fun _ _ => rfl, fun _ _ => rfl, ⟨fun _ => rfl, fun _ _ => rfl, fun _ _ => rfl, trivial⟩⟩⟩⟩⟩⟩ (fun ρ => (by repeat (first | with_reducible exact Z.Takes.nil | (apply Z.Takes.cons; (repeat (first | with_reducible exact Z.Take.here | apply Z.Take.there))) | exact Z.Takes.nil))) ?_ (fun ρ => ?_)
        · skip
          refine Z.tops_cons ?_ ?_
          · refine Z.top_q (fun ρ => vx) rfl (fun _ => rfl) (fun ρ Rr => ?_)
            show Z.HQ _ _ _ _ _ _ (Z.cl b6 42 [vx] :: Rr) _ _
            exact (Z.hq_val (Z.pv_load1 rfl (by repeat (first | with_reducible exact Z.Take.here | apply Z.Take.there)) Try.isAgg42 (by rfl)))
          refine Z.tops_cons ?_ ?_
          · refine Z.top_q (fun ρ => .int .u64 x.1) rfl (fun _ => rfl) (fun ρ Rr => ?_)
            show Z.HQ _ _ _ _ _ _ (Rr) _ _
            exact (Z.hq_val (Z.pv_move rfl))
          refine Z.tops_cons ?_ ?_
          · refine Z.top_c rfl (fun ρ Rr => ?_)
            refine Z.hn_of rfl (by rfl) rfl (by rfl) ?_
            show Z.J _ _ _ _ ([] ++ Rr) _
            refine Z.j_app (by repeat (first | exact Z.App.nil | apply Z.App.cons)) ?_
            refine Z.s_buildSlice rfl Try.underlying42 Try.zeroValue31 Try.sizeOf31 rfl rfl rfl rfl (fun b22 => ?_)
            refine Z.J.own_mk (T := 31) (k := 1) (m := 1) (c := [.int .u64 x.1]) (by repeat (first | with_reducible exact Z.Take.here | apply Z.Take.there)) rfl ?_
            refine Z.j_nil ?_
            refine Z.hn_end (by rfl) (Z.st_td (by repeat (first | with_reducible exact Z.Takes.nil | (apply Z.Takes.cons; (repeat (first | exact Z.Take.here | apply Z.Take.there))) | exact Z.Takes.nil)) (by repeat (first | with_reducible exact Z.Drop.nil | apply Z.Drop.cons)))
          refine Z.tops_cons ?_ ?_
          · refine Z.top_c rfl (fun ρ Rr => ?_)
            refine Z.hn_of rfl (by rfl) rfl (by rfl) ?_
            show Z.J _ _ _ _ ([Z.Own 31 1 vx pre.length (u64s (pre.map (·.1))), Z.Own 31 1 (ρ 2) 1 [.int .u64 x.1]] ++ Rr) _
            refine Z.j_app (by repeat (first | exact Z.App.nil | apply Z.App.cons)) ?_
            refine Z.j_unown (T := 31) (k := 1) (v := ρ 2) (by repeat (first | with_reducible exact Z.Take.here | apply Z.Take.there)) (fun e1 e2 e3 => by cases e2) (fun nb cap sp e1 e2 e3 => ?_)
            refine Z.s_append (k := 1) (by' := 8) (cap2 := cap) rfl (by show some (ρ 2) = _; rw [e1]) (by repeat (first | with_reducible exact Z.Take.here | apply Z.Take.there)) (Z.reads_cl (by repeat (first | with_reducible exact Z.Take.here | apply Z.Take.there)) (k := 1) (slc_one _ _)) Try.underlying42 Try.typeInfo31 rfl rfl rfl rfl rfl rfl (.inl (by omega)) (by omega) (by omega) (fun v23 hv23 => ?_)
            refine Z.j_nil ?_
            refine Z.hn_end (by rfl) (Z.st_td (by repeat (first | with_reducible exact Z.Takes.nil | (apply Z.Takes.cons; (repeat (first | exact Z.Take.here | apply Z.Take.there))) | exact Z.Takes.nil)) (by repeat (first | with_reducible exact Z.Drop.nil | apply Z.Drop.cons)))
          refine Z.tops_cons ?_ ?_
          · refine Z.top_q (fun ρ => vy) rfl (fun _ => rfl) (fun ρ Rr => ?_)
            show Z.HQ _ _ _ _ _ _ (Z.cl b7 44 [vy] :: Rr) _ _
            exact (Z.hq_val (Z.pv_load1 rfl (by repeat (first | with_reducible exact Z.Take.here | apply Z.Take.there)) Try.isAgg44 (by rfl)))
          refine Z.tops_cons ?_ ?_
          · refine Z.top_q (fun ρ => .int .i64 x.2) rfl (fun _ => rfl) (fun ρ Rr => ?_)
            show Z.HQ _ _ _ _ _ _ (Rr) _ _
            exact (Z.hq_val (Z.pv_move rfl))
          refine Z.tops_cons ?_ ?_
          · refine Z.top_c rfl (fun ρ Rr => ?_)
            refine Z.hn_of rfl (by rfl) rfl (by rfl) ?_
            show Z.J _ _ _ _ ([] ++ Rr) _
            refine Z.j_app (by repeat (first | exact Z.App.nil | apply Z.App.cons)) ?_
            refine Z.s_buildSlice rfl Try.underlying44 Try.zeroValue3 Try.sizeOf3 rfl rfl rfl rfl (fun b26 => ?_)
            refine Z.J.own_mk (T := 3) (k := 1) (m := 1) (c := [.int .i64 x.2]) (by repeat (first | with_reducible exact Z.Take.here | apply Z.Take.there)) rfl ?_
            refine Z.j_nil ?_
            refine Z.hn_end (by rfl) (Z.st_td (by repeat (first | with_reducible exact Z.Takes.nil | (apply Z.Takes.cons; (repeat (first | exact Z.Take.here | apply Z.Take.there))) | exact Z.Takes.nil)) (by repeat (first | with_reducible exact Z.Drop.nil | apply Z.Drop.cons)))
          refine Z.tops_cons ?_ ?_
          · refine Z.top_c rfl (fun ρ Rr => ?_)
            refine Z.hn_of rfl (by rfl) rfl (by rfl) ?_
            show Z.J _ _ _ _ ([Z.Own 3 1 vy pre.length (i64s (pre.map (·.2))), Z.Own 3 1 (ρ 6) 1 [.int .i64 x.2]] ++ Rr) _
            refine Z.j_app (by repeat (first | exact Z.App.nil | apply Z.App.cons)) ?_
            refine Z.j_unown (T := 3) (k := 1) (v := ρ 6) (by repeat (first | with_reducible exact Z.Take.here | apply Z.Take.there)) (fun e1 e2 e3 => by cases e2) (fun nb cap sp e1 e2 e3 => ?_)
            refine Z.s_append (k := 1) (by' := 8) (cap2 := cap) rfl (by show some (ρ 6) = _; rw [e1]) (by repeat (first | with_reducible exact Z.Take.here | apply Z.Take.there)) (Z.reads_cl (by repeat (first | with_reducible exact Z.Take.here | apply Z.Take.there)) (k := 1) (slc_one _ _)) Try.underlying44 Try.typeInfo3 rfl rfl rfl rfl rfl rfl (.inl (by omega)) (by omega) (by omega) (fun v27 hv27 => ?_)
            refine Z.j_nil ?_
            refine Z.hn_end (by rfl) (Z.st_td (by repeat (first | with_reducible exact Z.Takes.nil | (apply Z.Takes.cons; (repeat (first | exact Z.Take.here | apply Z.Take.there))) | exact Z.Takes.nil)) (by repeat (first | with_reducible exact Z.Drop.nil | apply Z.Drop.cons)))
          refine Z.tops_cons ?_ ?_
          · refine Z.top_c rfl (fun ρ Rr => ?_)
            refine Z.hn_of0 rfl (by rfl) rfl ?_
            show Z.J _ _ _ _ ([Z.cl b6 42 [vx], Z.Own 31 1 (ρ 3) (pre.length + 1) ((u64s (pre.map (·.1))) ++ [.int .u64 x.1])] ++ Rr) _
            refine Z.j_app (by repeat (first | exact Z.App.nil | apply Z.App.cons)) ?_
            refine Z.s_storeO (T2 := 31) (k := 1) rfl rfl (by repeat (first | with_reducible exact Z.Take.here | apply Z.Take.there)) Try.sizeOf42 (by repeat (first | with_reducible exact Z.Upd.here | apply Z.Upd.there)) (by rfl) ?_
            refine Z.j_nil ?_
            refine Z.hn_end0 (fun _ => Z.st_td (by repeat (first | with_reducible exact Z.Takes.nil | (apply Z.Takes.cons; (repeat (first | exact Z.Take.here | apply Z.Take.there))) | exact Z.Takes.nil)) (by repeat (first | with_reducible exact Z.Drop.nil | apply Z.Drop.cons)))
          refine Z.tops_cons ?_ ?_
          · refine Z.top_c rfl (fun ρ Rr => ?_)
            refine Z.hn_of0 rfl (by rfl) rfl ?_
            show Z.J _ _ _ _ ([Z.cl b7 44 [vy], Z.Own 3 1 (ρ 7) (pre.length + 1) ((i64s (pre.map (·.2))) ++ [.int .i64 x.2])] ++ Rr) _
            refine Z.j_app (by repeat (first | exact Z.App.nil | apply Z.App.cons)) ?_
            refine Z.s_storeO (T2 := 3) (k := 1) rfl rfl (by repeat (first | with_reducible exact Z.Take.here | apply Z.Take.there)) Try.sizeOf44 (by repeat (first | with_reducible exact Z.Upd.here | apply Z.Upd.there)) (by rfl) ?_
            refine Z.j_nil ?_
            refine Z.hn_end0 (fun _ => Z.st_td (by repeat (first | with_reducible exact Z.Takes.nil | (apply Z.Takes.cons; (repeat (first | exact Z.Take.here | apply Z.Take.there))) | exact Z.Takes.nil)) (by repeat (first | with_reducible exact Z.Drop.nil | apply Z.Drop.cons)))
          exact Z.tops_nil
        · show Z.J _ _ _ _ ([Z.cl b6 42 [ρ 3], Z.Own 31 1 (ρ 3) (pre.length + 1) ((u64s (pre.map (·.1))) ++ [.int .u64 x.1]), Z.cl b7 44 [ρ 7], Z.Own 3 1 (ρ 7) (pre.length + 1) ((i64s (pre.map (·.2))) ++ [.int .i64 x.2])] ++ _) _
          refine Z.j_app (by repeat (first | exact Z.App.nil | apply Z.App.cons)) ?_
          refine Z.J.own_one (T := 31) (k := 1) (v := ρ 3) (by repeat (first | with_reducible exact Z.Take.here | apply Z.Take.there)) (fun hv23 => ?_)
          refine Z.J.own_one (T := 3) (k := 1) (v := ρ 7) (by repeat (first | with_reducible exact Z.Take.here | apply Z.Take.there)) (fun hv27 => ?_)
          refine Z.j_fold (A := S2 b6 b7 (pre ++ [x])) (As := [Z.cl b6 42 [ρ 3], Z.cl b7 44 [ρ 7], Z.Own 31 1 (ρ 3) (pre.length + 1) (u64s (pre.map (·.1)) ++ [.int .u64 x.1]), Z.Own 3 1 (ρ 7) (pre.length + 1) (i64s (pre.map (·.2)) ++ [.int .i64 x.2])]) (by repeat (first | with_reducible exact Z.Takes.nil | (apply Z.Takes.cons; (repeat (first | with_reducible exact Z.Take.here | apply Z.Take.there))))) (fun _ H => ⟨⟨(ρ 3, ρ 7), hv23, hv27⟩, by simpa [S2F, u64s, i64s] using H⟩) ?_
          refine Z.j_then ?_
          refine Z.j_seq ?_
          refine Z.j_open (A := S2 b6 b7 (pre ++ [x])) (by repeat (first | with_reducible exact Z.Take.here | apply Z.Take.there)) (fun _ H => H) (fun p => ?_)
          obtain ⟨⟨vx, vy⟩, hvx, hvy⟩ := p
          show Z.J _ _ _ _ (S2F b6 b7 vx vy (pre ++ [x]) ++ _) _
          unfold S2F
          refine Z.j_app (by repeat (first | exact Z.App.nil | apply Z.App.cons)) ?_
          refine Z.j_region ?_
          refine Z.s_val (Z.pv_load1 rfl (by repeat (first | with_reducible exact Z.Take.here | apply Z.Take.there)) Try.isAgg42 (by rfl)) ?_
          refine Z.s_val (Z.pv_lenO rfl (by repeat (first | with_reducible exact Z.Take.here | apply Z.Take.there)) Try.underlying42) ?_
          refine Z.s_val (Z.pv_load1 rfl (by repeat (first | with_reducible exact Z.Take.here | apply Z.Take.there)) Try.isAgg3 (by rfl)) ?_
          refine Z.s_val (Z.pv_eql rfl rfl) ?_
          refine Z.j_nil ?_
          refine Z.j_then ?_
          refine Z.j_cond rfl (fun hc31 => ?_) (fun hc31 => ?_)
          · try (with_reducible first | replace hc31 := of_decide_eq_true hc31 | replace hc31 := of_decide_eq_false hc31 | replace hc31 := Z.nd_true hc31 | replace hc31 := Z.nd_false hc31 | replace hc31 := Z.nn_true hc31 | replace hc31 := Z.nn_false hc31 | replace hc31 := Z.nb_true hc31 | replace hc31 := Z.nb_false hc31)
            first
            | (exfalso; first | (cases hc31; done) | omega)
            | skip
              refine Z.j_seq ?_
              refine Z.j_drawC (vals := [_, _, _, _]) 4 [2, 3] [.pin 0, .fl, .ch 0, .ch 1] [Z.cl b7 _ _] [_, _, _] (by kernel_rfl) (by kernel_rfl) (by kernel_rfl) rfl (by rfl) rfl (by repeat (first | with_reducible exact Z.Takes.nil | (apply Z.Takes.cons; (repeat (first | with_reducible exact Z.Take.here | apply Z.Take.there))))) (Z.hc_cons (Z.hk_pin (by rfl) (Z.pv_load1 (by rfl) (by repeat (first | with_reducible exact Z.Take.here | apply Z.Take.there)) Try.isAgg42 (by rfl))) (Z.hc_cons (Z.hk_fl (Z.pv_load1 (by rfl) (by repeat (first | with_reducible exact Z.Take.here | apply Z.Take.there)) Try.isAgg44 (by rfl))) (Z.hc_cons (Z.hk_store1 (by rfl) (by rfl) (by rfl) (by first | rfl | assumption) (by exact Try.sizeOf42) (by repeat (first | with_reducible exact Z.Upd.here | apply Z.Upd.there)) (by rfl) (by rfl)) (Z.hc_cons (Z.hk_store1 (by rfl) (by rfl) (by rfl) (by first | rfl | assumption) (by exact Try.sizeOf44) (by repeat (first | with_reducible exact Z.Upd.here | apply Z.Upd.there)) (by rfl) (by rfl)) Z.hc_nil)))) (Z.Holds.cons (by repeat (first | with_reducible exact Z.Takes.nil | (apply Z.Takes.cons; (repeat (first | with_reducible exact Z.Take.here | apply Z.Take.there))))) (Z.Holds.cons (by repeat (first | with_reducible exact Z.Takes.nil | (apply Z.Takes.cons; (repeat (first | with_reducible exact Z.Take.here | apply Z.Take.there))))) (Z.Holds.cons (by repeat (first | with_reducible exact Z.Takes.nil | (apply Z.Takes.cons; (repeat (first | with_reducible exact Z.Take.here | apply Z.Take.there))))) Z.Holds.nil))) rfl rfl ?_
              refine Z.j_nil ?_
              refine Z.j_then ?_
              refine Z.j_ret ?_
              refine Z.j_blk_ret ?_
              refine Z.j_fold (A := S2 b4 b5 (pre ++ [x])) (As := [Z.cl b4 42 [vx], Z.cl b5 44 [vy], Z.Own 31 1 vx (pre ++ [x]).length (u64s ((pre ++ [x]).map (·.1))), Z.Own 3 1 vy (pre ++ [x]).length (i64s ((pre ++ [x]).map (·.2)))]) (by repeat (first | with_reducible exact Z.Takes.nil | (apply Z.Takes.cons; (repeat (first | with_reducible exact Z.Take.here | apply Z.Take.there))))) (fun _ H => ⟨⟨(vx, vy), hvx, hvy⟩, H⟩) ?_
              exact Z.j_rpR (by have := hc31; simp at this; simp [stopN, Nat.beq_eq]; omega) (by repeat (first | with_reducible exact Z.Takes.nil | (apply Z.Takes.cons; (repeat (first | with_reducible exact Z.Take.here | apply Z.Take.there))))) (by repeat (first | with_reducible exact Z.Drop.nil | apply Z.Drop.cons))
          · try (with_reducible first | replace hc31 := of_decide_eq_true hc31 | replace hc31 := of_decide_eq_false hc31 | replace hc31 := Z.nd_true hc31 | replace hc31 := Z.nd_false hc31 | replace hc31 := Z.nn_true hc31 | replace hc31 := Z.nn_false hc31 | replace hc31 := Z.nb_true hc31 | replace hc31 := Z.nb_false hc31)
            first
            | (exfalso; first | (cases hc31; done) | omega)
            | skip
              refine Z.j_skip ?_
              refine Z.j_blk ?_
              refine Z.j_fold (A := S2 b6 b7 (pre ++ [x])) (As := S2F b6 b7 vx vy (pre ++ [x])) (by repeat (first | with_reducible exact Z.Takes.nil | (apply Z.Takes.cons; (repeat (first | with_reducible exact Z.Take.here | apply Z.Take.there))))) (fun _ H => ⟨⟨(vx, vy), hvx, hvy⟩, H⟩) ?_
              exact Z.j_rpN (by have := hc31; simp at this; cases hb : stopN most pre x with | false => rfl | true => exfalso; have := Nat.eq_of_beq_eq_true hb; omega) (by repeat (first | with_reducible exact Z.Takes.nil | (apply Z.Takes.cons; (repeat (first | with_reducible exact Z.Take.here | apply Z.Take.there))))) (by repeat (first | with_reducible exact Z.Drop.nil | apply Z.Drop.cons))
      · refine Z.j_app2 (by repeat (first | exact Z.App.nil | apply Z.App.cons)) (by repeat (first | exact Z.App.nil | apply Z.App.cons)) ?_
        refine Z.j_blk ?_
        refine Z.j_then ?_
        refine Z.j_seq ?_
        refine Z.j_open (A := S2 b6 b7 (pairs t)) (by repeat (first | with_reducible exact Z.Take.here | apply Z.Take.there)) (fun _ H => H) (fun p => ?_)
        obtain ⟨⟨vx, vy⟩, hvx, hvy⟩ := p
        show Z.J _ _ _ _ (S2F b6 b7 vx vy (pairs t) ++ _) _
        unfold S2F
        refine Z.j_app (by repeat (first | exact Z.App.nil | apply Z.App.cons)) ?_
        refine Z.j_drawC (vals := [_, _, _, _]) 4 [2, 3] [.pin 0, .fl, .ch 0, .ch 1] [Z.cl b7 _ _] [_, _, _] (by kernel_rfl) (by kernel_rfl) (by kernel_rfl) rfl (by rfl) rfl (by repeat (first | with_reducible exact Z.Takes.nil | (apply Z.Takes.cons; (repeat (first | with_reducible exact Z.Take.here | apply Z.Take.there))))) (Z.hc_cons (Z.hk_pin (by rfl) (Z.pv_load1 (by rfl) (by repeat (first | with_reducible exact Z.Take.here | apply Z.Take.there)) Try.isAgg42 (by rfl))) (Z.hc_cons (Z.hk_fl (Z.pv_load1 (by rfl) (by repeat (first | with_reducible exact Z.Take.here | apply Z.Take.there)) Try.isAgg44 (by rfl))) (Z.hc_cons (Z.hk_store1 (by rfl) (by rfl) (by rfl) (by first | rfl | assumption) (by exact Try.sizeOf42) (by repeat (first | with_reducible exact Z.Upd.here | apply Z.Upd.there)) (by rfl) (by rfl)) (Z.hc_cons (Z.hk_store1 (by rfl) (by rfl) (by rfl) (by first | rfl | assumption) (by exact Try.sizeOf44) (by repeat (first | with_reducible exact Z.Upd.here | apply Z.Upd.there)) (by rfl) (by rfl)) Z.hc_nil)))) (Z.Holds.cons (by repeat (first | with_reducible exact Z.Takes.nil | (apply Z.Takes.cons; (repeat (first | with_reducible exact Z.Take.here | apply Z.Take.there))))) (Z.Holds.cons (by repeat (first | with_reducible exact Z.Takes.nil | (apply Z.Takes.cons; (repeat (first | with_reducible exact Z.Take.here | apply Z.Take.there))))) (Z.Holds.cons (by repeat (first | with_reducible exact Z.Takes.nil | (apply Z.Takes.cons; (repeat (first | with_reducible exact Z.Take.here | apply Z.Take.there))))) Z.Holds.nil))) rfl rfl ?_
        refine Z.j_nil ?_
        refine Z.j_then ?_
        refine Z.j_ret ?_
        refine Z.j_doneM_ret (bs := [bk0]) (.cons (by repeat (first | with_reducible exact Z.Take.here | apply Z.Take.there)) .nil) (Z.rv2 (Z.rv_cell1 (x := 4) (T := 42) rfl (by repeat (first | with_reducible exact Z.Take.here | apply Z.Take.there)) Try.isAgg42 (by rfl)) (Z.rv_cell1 (x := 5) (T := 44) rfl (by repeat (first | with_reducible exact Z.Take.here | apply Z.Take.there)) Try.isAgg44 (by rfl))) ?_
        first | exact Z.post_of (Qs := [TabP tb t, Z.Own 31 1 (.slice (some ⟨b10, 0, none⟩) 0 0) 0 [], Z.Own 3 1 (.slice (some ⟨b11, 0, none⟩) 0 0) 0 []]) ⟨_, _, rfl, by rw [ss_nil hc13]; rfl⟩ (by repeat (first | with_reducible exact Z.Takes.nil | (apply Z.Takes.cons; (repeat (first | with_reducible exact Z.Take.here | apply Z.Take.there))))) (by repeat (first | with_reducible exact Z.Drop.nil | apply Z.Drop.cons)) | exact Z.post_of ⟨vx, vy, rfl, by rw [ss_end hc13 hfs0]⟩ (by repeat (first | with_reducible exact Z.Takes.nil | (apply Z.Takes.cons; (repeat (first | with_reducible exact Z.Take.here | apply Z.Take.there))))) (by repeat (first | with_reducible exact Z.Drop.nil | apply Z.Drop.cons)) | exact Z.post_of ⟨vx, vy, rfl, by rw [ss_ret hc13 hfs0]⟩ (by repeat (first | with_reducible exact Z.Takes.nil | (apply Z.Takes.cons; (repeat (first | with_reducible exact Z.Take.here | apply Z.Take.there))))) (by repeat (first | with_reducible exact Z.Drop.nil | apply Z.Drop.cons))
      · refine Z.j_app2 (by repeat (first | exact Z.App.nil | apply Z.App.cons)) (by repeat (first | exact Z.App.nil | apply Z.App.cons)) ?_
        refine Z.j_open (A := S2 b4 b5 (pre ++ [x])) (by repeat (first | with_reducible exact Z.Take.here | apply Z.Take.there)) (fun _ H => H) (fun p => ?_)
        obtain ⟨⟨vx, vy⟩, hvx, hvy⟩ := p
        show Z.J _ _ _ _ (S2F b4 b5 vx vy (pre ++ [x]) ++ _) _
        unfold S2F
        refine Z.j_app (by repeat (first | exact Z.App.nil | apply Z.App.cons)) ?_
        refine Z.j_blk_ret ?_
        refine Z.j_then_ret ?_
        refine Z.j_doneM_ret (bs := [bk0]) (.cons (by repeat (first | with_reducible exact Z.Take.here | apply Z.Take.there)) .nil) (Z.rv2 (Z.rv_cell1 (x := 4) (T := 42) rfl (by repeat (first | with_reducible exact Z.Take.here | apply Z.Take.there)) Try.isAgg42 (by rfl)) (Z.rv_cell1 (x := 5) (T := 44) rfl (by repeat (first | with_reducible exact Z.Take.here | apply Z.Take.there)) Try.isAgg44 (by rfl))) ?_
        first | exact Z.post_of (Qs := [TabP tb t, Z.Own 31 1 (.slice (some ⟨b10, 0, none⟩) 0 0) 0 [], Z.Own 3 1 (.slice (some ⟨b11, 0, none⟩) 0 0) 0 []]) ⟨_, _, rfl, by rw [ss_nil hc13]; rfl⟩ (by repeat (first | with_reducible exact Z.Takes.nil | (apply Z.Takes.cons; (repeat (first | with_reducible exact Z.Take.here | apply Z.Take.there))))) (by repeat (first | with_reducible exact Z.Drop.nil | apply Z.Drop.cons)) | exact Z.post_of ⟨vx, vy, rfl, by rw [ss_end hc13 hfs0]⟩ (by repeat (first | with_reducible exact Z.Takes.nil | (apply Z.Takes.cons; (repeat (first | with_reducible exact Z.Take.here | apply Z.Take.there))))) (by repeat (first | with_reducible exact Z.Drop.nil | apply Z.Drop.cons)) | exact Z.post_of ⟨vx, vy, rfl, by rw [ss_ret hc13 hfs0]⟩ (by repeat (first | with_reducible exact Z.Takes.nil | (apply Z.Takes.cons; (repeat (first | with_reducible exact Z.Take.here | apply Z.Take.there))))) (by repeat (first | with_reducible exact Z.Drop.nil | apply Z.Drop.cons))

end Go.Proofs.Ytjilnmjjehkidaa
