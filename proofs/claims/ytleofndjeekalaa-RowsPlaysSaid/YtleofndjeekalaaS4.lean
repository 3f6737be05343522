/- Rows: the iterator; the cells that are told. -/
import Derived.Test.YtleofndjeekalaaS3
import Derived.Test.YtleofndjeekalaaC3
import Derived.KernelRfl
namespace Go.Proofs.Ytleofndjeekalaa
open Go Go.RowKit
set_option maxHeartbeats 4000000 in
set_option maxRecDepth 100000 in
theorem all_spec (w0 : World) (rb : Nat) : Z.Fn Try.prog w0 27 [.pointer (some ⟨rb, 0, none⟩)] [] (fun v Q => ∃ b, v = .func (.func 33) #[] #[.pointer (some ⟨b, 0, none⟩)] ∧ Q = [Z.cl b 51 [.pointer (some ⟨rb, 0, none⟩)]]) := by
  refine Z.fn_enter (n := 4) Try.func27 rfl (by rfl) (by rfl) (fun Fr => ?_)
  refine Z.j_app (by repeat (first | exact Z.App.nil | apply Z.App.cons)) ?_
  refine Z.j_seq ?_
  refine Z.j_region ?_
  refine Z.s_box1 rfl rfl (fun b1 => ?_)
  refine Z.s_val (Z.pv_assign rfl) ?_
  refine Z.j_nil ?_
  refine Z.j_then ?_
  refine Z.j_seq ?_
  refine Z.j_region ?_
  refine Z.s_val (Z.pv_func rfl rfl) ?_
  refine Z.s_val (Z.pv_assign rfl) ?_
  refine Z.j_nil ?_
  refine Z.j_then ?_
  refine Z.j_ret ?_
  refine Z.j_done_ret (Z.rv1 (Z.rv_tmp (t := 2) rfl)) ?_
  exact Z.post_of ⟨b1, rfl, rfl⟩ (by repeat (first | with_reducible exact Z.Takes.nil | (apply Z.Takes.cons; (repeat (first | with_reducible exact Z.Take.here | apply Z.Take.there))))) (by repeat (first | with_reducible exact Z.Drop.nil | apply Z.Drop.cons))

set_option maxHeartbeats 4000000 in
set_option maxRecDepth 100000 in
theorem all1_spec (w0 : World) (rb : Nat) (r : RSt) (b1 : Nat) (hr : r.ok) (l : Nat) (A : List CI → Z.SP) (B : List CI → CI → Z.SP) (stop : List CI → CI → Bool) (hY : ∀ pre x suf, pre ++ x :: suf = pairsR r.ver → Z.YFnB Try.prog w0 l [x.1.e, .int .i64 x.2] [A pre] (!stop pre x) [match stop pre x with | true => B pre x | false => A (pre ++ [x])]) : Z.Fn Try.prog w0 33 [.func (.yield l) #[] #[], .pointer (some ⟨b1, 0, none⟩)] [Z.cl b1 51 [.pointer (some ⟨rb, 0, none⟩)], RowP rb r, A []] (fun _ Q => Q = [Z.cl b1 51 [.pointer (some ⟨rb, 0, none⟩)], RowP rb r, Z.finS A B stop (pairsR r.ver)]) := by
  have hlen := hr.len
  have hl1 := hr.l1
  refine Z.fn_enter (n := 23) Try.func33 rfl (by rfl) (by rfl) (fun Fr => ?_)
  refine Z.j_app (by repeat (first | exact Z.App.nil | apply Z.App.cons)) ?_
  refine Z.j_seq ?_
  refine Z.j_region ?_
  refine Z.s_val (Z.pv_load1 rfl (by repeat (first | with_reducible exact Z.Take.here | apply Z.Take.there)) Try.isAgg51 (by rfl)) ?_
  refine Z.s_call rfl rfl rfl isFn28 (by repeat (first | with_reducible exact Z.Takes.nil | (apply Z.Takes.cons; (repeat (first | with_reducible exact Z.Take.here | apply Z.Take.there))))) (sorted_spec _ _ _ hr) ?_
  rintro vS _ rfl
  refine Z.j_app (by repeat (first | exact Z.App.nil | apply Z.App.cons)) ?_
  refine Z.s_val (Z.pv_lenO rfl (by repeat (first | with_reducible exact Z.Take.here | apply Z.Take.there)) Try.underlying30) ?_
  refine Z.s_val (Z.pv_move rfl) ?_
  refine Z.j_nil ?_
  refine Z.j_then ?_
  refine Z.j_block ?_
  refine Z.j_open (A := RowP rb r) (by repeat (first | with_reducible exact Z.Take.here | apply Z.Take.there)) (fun _ H => H) (fun o => ?_)
  show Z.J _ _ _ _ (RowF rb o r ++ _) _
  unfold RowF
  refine Z.j_app (by repeat (first | exact Z.App.nil | apply Z.App.cons)) ?_
  refine Z.j_cast (A := A []) (B := A ((pairsR r.ver).take 0)) (by repeat (first | with_reducible exact Z.Take.here | apply Z.Take.there)) (by rw [List.take_zero]) ?_
  refine Z.j_initF (E' := [(0, .func (.yield l) #[] #[]), (1, .pointer (some ⟨b1, 0, none⟩)), (6, vS), (7, .int .i64 r.ver.length), (8, .int .i64 ((0) : Nat))]) (As := [Z.Own 36 2 vS r.ver.length ((sortC r.ver).flatMap Cell.c), Z.cl rb 29 [vO o, eO o, .int .i64 r.last], Z.MapV (vO o) Cell.e (Value.int .i64) r.ver, Z.MapV (eO o) Cell.e Value.bool r.ev, Z.cl b1 51 [.pointer (some ⟨rb, 0, none⟩)], A ((pairsR r.ver).take (0))]) (Fr := Fr) (by repeat (first | exact trivial | refine ⟨rfl, ?_⟩)) (by repeat (first | with_reducible exact Z.Takes.nil | (apply Z.Takes.cons; (repeat (first | with_reducible exact Z.Take.here | apply Z.Take.there))))) (by repeat (first | with_reducible exact Z.Drop.nil | apply Z.Drop.cons)) ?_
  refine Z.j_loop (X := { x : (Nat) // (x) ≤ r.ver.length ∧ Z.fst stop [] (pairsR r.ver) = Z.fst stop ((pairsR r.ver).take (x)) ((pairsR r.ver).drop (x)) }) (fun (x : { x : (Nat) // (x) ≤ r.ver.length ∧ Z.fst stop [] (pairsR r.ver) = Z.fst stop ((pairsR r.ver).take (x)) ((pairsR r.ver).drop (x)) }) => [(0, .func (.yield l) #[] #[]), (1, .pointer (some ⟨b1, 0, none⟩)), (6, vS), (7, .int .i64 r.ver.length), (8, .int .i64 ((x.1) : Nat))]) (fun x => (fun (x : { x : (Nat) // (x) ≤ r.ver.length ∧ Z.fst stop [] (pairsR r.ver) = Z.fst stop ((pairsR r.ver).take (x)) ((pairsR r.ver).drop (x)) }) => [Z.Own 36 2 vS r.ver.length ((sortC r.ver).flatMap Cell.c), Z.cl rb 29 [vO o, eO o, .int .i64 r.last], Z.MapV (vO o) Cell.e (Value.int .i64) r.ver, Z.MapV (eO o) Cell.e Value.bool r.ev, Z.cl b1 51 [.pointer (some ⟨rb, 0, none⟩)], A ((pairsR r.ver).take (x.1))]) x ++ Fr) (fun (x : { x : (Nat) // (x) ≤ r.ver.length ∧ Z.fst stop [] (pairsR r.ver) = Z.fst stop ((pairsR r.ver).take (x)) ((pairsR r.ver).drop (x)) }) => r.ver.length - (x.1)) ⟨(0), ⟨by omega, rfl⟩⟩ (fun x => ?_)
  obtain ⟨i, hinv⟩ := x
  have hinv' : i ≤ r.ver.length ∧ Z.fst stop [] (pairsR r.ver) = Z.fst stop ((pairsR r.ver).take i) ((pairsR r.ver).drop i) := hinv
  obtain ⟨hi, hf⟩ := hinv'
  show Z.J _ _ _ ([(0, .func (.yield l) #[] #[]), (1, .pointer (some ⟨b1, 0, none⟩)), (6, vS), (7, .int .i64 r.ver.length), (8, .int .i64 (i : Nat))]) ([Z.Own 36 2 vS r.ver.length ((sortC r.ver).flatMap Cell.c), Z.cl rb 29 [vO o, eO o, .int .i64 r.last], Z.MapV (vO o) Cell.e (Value.int .i64) r.ver, Z.MapV (eO o) Cell.e Value.bool r.ev, Z.cl b1 51 [.pointer (some ⟨rb, 0, none⟩)], A ((pairsR r.ver).take i)] ++ Fr) _
  refine Z.j_app (by repeat (first | exact Z.App.nil | apply Z.App.cons)) ?_
  refine Z.j_seq ?_
  refine Z.j_region ?_
  refine Z.s_val (Z.pv_lss rfl rfl) ?_
  refine Z.j_nil ?_
  refine Z.j_then ?_
  refine Z.j_seq ?_
  refine Z.j_cond rfl (fun hc9 => ?_) (fun hc9 => ?_)
  · try (with_reducible first | replace hc9 := of_decide_eq_true hc9 | replace hc9 := of_decide_eq_false hc9 | replace hc9 := Z.nd_true hc9 | replace hc9 := Z.nd_false hc9 | replace hc9 := Z.nn_true hc9 | replace hc9 := Z.nn_false hc9 | replace hc9 := Z.nb_true hc9 | replace hc9 := Z.nb_false hc9)
    first
    | (exfalso; first | (cases hc9; done) | omega)
    | skip
      refine Z.j_skip ?_
      refine Z.j_then ?_
      refine Z.j_seq ?_
      refine Z.j_block ?_
      refine Z.j_seq ?_
      refine Z.j_unown (T := 36) (k := 2) (by repeat (first | with_reducible exact Z.Take.here | apply Z.Take.there)) (fun e1 e2 e3 => by exfalso; omega) (fun nb cap sp e1 e2 e3 => ?_)
      refine Z.j_region ?_
      refine Z.s_val (Z.pv_indexAddr (o' := i * 2) (b := nb) (o := 0) (len := r.ver.length) (cap := cap) (by show some vS = _; rw [e1]) rfl Try.underlying30 Try.sizeOf36 (by omega) (by simp)) ?_
      refine Z.s_val (Z.pv_loadA rfl (by repeat (first | with_reducible exact Z.Take.here | apply Z.Take.there)) Try.isAgg36 Try.sizeOf36 (slc_cell sp (by rw [sortC_len]; omega))) ?_
      refine Z.s_alloc Try.zeroValue36 (fun b4 => ?_)
      refine Z.s_storeA rfl rfl Try.sizeOf36 rfl (by repeat (first | with_reducible exact Z.Upd.here | apply Z.Upd.there)) (by rfl) ?_
      refine Z.j_nil ?_
      refine Z.j_then ?_
      refine Z.j_seq ?_
      refine Z.j_draw (vals := [_, _, _, _, _, _, _, _]) 8 (by kernel_rfl) (by kernel_rfl) rfl (by rfl) (Z.heads_cons (Z.hq_val (Z.pv_move (by rfl))) (Z.heads_cons (Z.hq_val (Z.pv_loadA (by rfl) (by repeat (first | with_reducible exact Z.Take.here | apply Z.Take.there)) Try.isAgg36 (by exact Try.sizeOf36) (by rfl))) (Z.heads_cons (Z.hq_val (Z.pv_load1 (by rfl) (by repeat (first | with_reducible exact Z.Take.here | apply Z.Take.there)) Try.isAgg51 (by rfl))) (Z.heads_cons (Z.hq_val (Z.pv_nil (by rfl))) (Z.heads_cons (Z.hq_val (Z.pv_fieldAddr (by rfl) Try.underlying29 (by rfl) (by exact Try.sizeOf26) (by rfl))) (Z.heads_cons (Z.hq_val (Z.pv_load1 (by rfl) (by repeat (first | with_reducible exact Z.Take.here | apply Z.Take.there)) Try.isAgg26 (by rfl))) (Z.heads_cons (Z.hq_val (Z.pv_loadA (by rfl) (by repeat (first | with_reducible exact Z.Take.here | apply Z.Take.there)) Try.isAgg36 (by exact Try.sizeOf36) (by rfl))) (Z.heads_cons (Z.hq_val (Z.pv_lookupV (k := sAt r.ver i) (venc := Value.int .i64) (m := r.ver) 0 (by rfl) (by rfl) Try.underlying26 kCell Try.zeroValue3 (by repeat (first | with_reducible exact Z.Take.here | apply Z.Take.there)))) Z.heads_nil)))))))) ?_
      refine Z.s_yieldS (b := stop ((pairsR r.ver).take i) (qAt r.ver i)) (S1 := B ((pairsR r.ver).take i) (qAt r.ver i)) (S2 := A ((pairsR r.ver).take i ++ [qAt r.ver i])) rfl rfl (by repeat (first | with_reducible exact Z.Takes.nil | (apply Z.Takes.cons; (repeat (first | with_reducible exact Z.Take.here | apply Z.Take.there))))) (hY _ (qAt r.ver i) ((pairsR r.ver).drop (i + 1)) (pairsR_at (by omega))) (fun hst => ?_) (fun hst => ?_)
      · skip
        refine Z.s_val (Z.pv_not rfl) ?_
        refine Z.j_nil ?_
        refine Z.j_then ?_
        refine Z.j_cond rfl (fun hc21 => ?_) (fun hc21 => ?_)
        · try (with_reducible first | replace hc21 := of_decide_eq_true hc21 | replace hc21 := of_decide_eq_false hc21 | replace hc21 := Z.nd_true hc21 | replace hc21 := Z.nd_false hc21 | replace hc21 := Z.nn_true hc21 | replace hc21 := Z.nn_false hc21 | replace hc21 := Z.nb_true hc21 | replace hc21 := Z.nb_false hc21)
          first
          | (exfalso; first | (cases hc21; done) | omega)
          | skip
            refine Z.j_ret ?_
            refine Z.j_blk_ret ?_
            refine Z.j_then_ret ?_
            refine Z.j_then_ret ?_
            refine Z.j_blk_ret ?_
            refine Z.j_fold (A := RowP rb r) (As := [Z.cl rb 29 [vO o, eO o, .int .i64 r.last], Z.MapV (vO o) Cell.e (Value.int .i64) r.ver, Z.MapV (eO o) Cell.e Value.bool r.ev]) (by repeat (first | with_reducible exact Z.Takes.nil | (apply Z.Takes.cons; (repeat (first | with_reducible exact Z.Take.here | apply Z.Take.there))))) (fun _ H => ⟨o, H⟩) ?_
            refine Z.j_done_ret Z.rv0 ?_
            first | exact Z.post_of (Qs := [Z.cl b1 51 [.pointer (some ⟨rb, 0, none⟩)], RowP rb r, B ((pairsR r.ver).take i) (qAt r.ver i)]) (by rw [Z.finS_stop (pairsR_stop (by omega) hf hst)]) (by repeat (first | with_reducible exact Z.Takes.nil | (apply Z.Takes.cons; (repeat (first | with_reducible exact Z.Take.here | apply Z.Take.there))))) (by repeat (first | with_reducible exact Z.Drop.nil | apply Z.Drop.cons)) | exact Z.post_of (Qs := [Z.cl b1 51 [.pointer (some ⟨rb, 0, none⟩)], RowP rb r, A (pairsR r.ver)]) (by rw [Z.finS_end hfe]) (by repeat (first | with_reducible exact Z.Takes.nil | (apply Z.Takes.cons; (repeat (first | with_reducible exact Z.Take.here | apply Z.Take.there))))) (by repeat (first | with_reducible exact Z.Drop.nil | apply Z.Drop.cons))
        · try (with_reducible first | replace hc21 := of_decide_eq_true hc21 | replace hc21 := of_decide_eq_false hc21 | replace hc21 := Z.nd_true hc21 | replace hc21 := Z.nd_false hc21 | replace hc21 := Z.nn_true hc21 | replace hc21 := Z.nn_false hc21 | replace hc21 := Z.nb_true hc21 | replace hc21 := Z.nb_false hc21)
          first
          | (exfalso; first | (cases hc21; done) | omega)
          | skip
            refine Z.j_skip ?_
            refine Z.j_blk ?_
            refine Z.j_then ?_
            refine Z.j_region ?_
            refine Z.s_val (Z.pv_add rfl rfl (by first | exact IntWalk.i64_in _ (by omega) | rfl)) ?_
            refine Z.s_val (Z.pv_move rfl) ?_
            refine Z.j_nil ?_
            refine Z.j_then ?_
            refine Z.j_own (T := 36) (k := 2) (m := r.ver.length) (cap := cap) (c := ((sortC r.ver).flatMap Cell.c)) (sp := sp) (by repeat (first | with_reducible exact Z.Take.here | apply Z.Take.there)) e2 e3 ?_
            rw [← e1, pairsR_snoc (by omega)]
            (refine Z.j_nextG (X := { x : (Nat) // (x) ≤ r.ver.length ∧ Z.fst stop [] (pairsR r.ver) = Z.fst stop ((pairsR r.ver).take (x)) ((pairsR r.ver).drop (x)) }) (EE := (fun (x : { x : (Nat) // (x) ≤ r.ver.length ∧ Z.fst stop [] (pairsR r.ver) = Z.fst stop ((pairsR r.ver).take (x)) ((pairsR r.ver).drop (x)) }) => [(0, .func (.yield l) #[] #[]), (1, .pointer (some ⟨b1, 0, none⟩)), (6, vS), (7, .int .i64 r.ver.length), (8, .int .i64 ((x.1) : Nat))])) (LL := (fun (x : { x : (Nat) // (x) ≤ r.ver.length ∧ Z.fst stop [] (pairsR r.ver) = Z.fst stop ((pairsR r.ver).take (x)) ((pairsR r.ver).drop (x)) }) => [Z.Own 36 2 vS r.ver.length ((sortC r.ver).flatMap Cell.c), Z.cl rb 29 [vO o, eO o, .int .i64 r.last], Z.MapV (vO o) Cell.e (Value.int .i64) r.ver, Z.MapV (eO o) Cell.e Value.bool r.ev, Z.cl b1 51 [.pointer (some ⟨rb, 0, none⟩)], A ((pairsR r.ver).take (x.1))])) (μ := (fun (x : { x : (Nat) // (x) ≤ r.ver.length ∧ Z.fst stop [] (pairsR r.ver) = Z.fst stop ((pairsR r.ver).take (x)) ((pairsR r.ver).drop (x)) }) => r.ver.length - (x.1))) (x := ⟨(i), hinv⟩) ⟨(i + 1), ⟨by omega, pairsR_go (by omega) hf hst⟩⟩ ?_ ?_ ?_; (show r.ver.length - (i + 1) < r.ver.length - i; omega); (exact (by repeat (first | exact trivial | refine ⟨rfl, ?_⟩))); (exact Z.st_td (by repeat (first | with_reducible exact Z.Takes.nil | (apply Z.Takes.cons; (repeat (first | with_reducible exact Z.Take.here | apply Z.Take.there))))) (by repeat (first | with_reducible exact Z.Drop.nil | apply Z.Drop.cons))))
      · skip
        refine Z.s_val (Z.pv_not rfl) ?_
        refine Z.j_nil ?_
        refine Z.j_then ?_
        refine Z.j_cond rfl (fun hc21 => ?_) (fun hc21 => ?_)
        · try (with_reducible first | replace hc21 := of_decide_eq_true hc21 | replace hc21 := of_decide_eq_false hc21 | replace hc21 := Z.nd_true hc21 | replace hc21 := Z.nd_false hc21 | replace hc21 := Z.nn_true hc21 | replace hc21 := Z.nn_false hc21 | replace hc21 := Z.nb_true hc21 | replace hc21 := Z.nb_false hc21)
          first
          | (exfalso; first | (cases hc21; done) | omega)
          | skip
            refine Z.j_ret ?_
            refine Z.j_blk_ret ?_
            refine Z.j_then_ret ?_
            refine Z.j_then_ret ?_
            refine Z.j_blk_ret ?_
            refine Z.j_fold (A := RowP rb r) (As := [Z.cl rb 29 [vO o, eO o, .int .i64 r.last], Z.MapV (vO o) Cell.e (Value.int .i64) r.ver, Z.MapV (eO o) Cell.e Value.bool r.ev]) (by repeat (first | with_reducible exact Z.Takes.nil | (apply Z.Takes.cons; (repeat (first | with_reducible exact Z.Take.here | apply Z.Take.there))))) (fun _ H => ⟨o, H⟩) ?_
            refine Z.j_done_ret Z.rv0 ?_
            first | exact Z.post_of (Qs := [Z.cl b1 51 [.pointer (some ⟨rb, 0, none⟩)], RowP rb r, B ((pairsR r.ver).take i) (qAt r.ver i)]) (by rw [Z.finS_stop (pairsR_stop (by omega) hf hst)]) (by repeat (first | with_reducible exact Z.Takes.nil | (apply Z.Takes.cons; (repeat (first | with_reducible exact Z.Take.here | apply Z.Take.there))))) (by repeat (first | with_reducible exact Z.Drop.nil | apply Z.Drop.cons)) | exact Z.post_of (Qs := [Z.cl b1 51 [.pointer (some ⟨rb, 0, none⟩)], RowP rb r, A (pairsR r.ver)]) (by rw [Z.finS_end hfe]) (by repeat (first | with_reducible exact Z.Takes.nil | (apply Z.Takes.cons; (repeat (first | with_reducible exact Z.Take.here | apply Z.Take.there))))) (by repeat (first | with_reducible exact Z.Drop.nil | apply Z.Drop.cons))
        · try (with_reducible first | replace hc21 := of_decide_eq_true hc21 | replace hc21 := of_decide_eq_false hc21 | replace hc21 := Z.nd_true hc21 | replace hc21 := Z.nd_false hc21 | replace hc21 := Z.nn_true hc21 | replace hc21 := Z.nn_false hc21 | replace hc21 := Z.nb_true hc21 | replace hc21 := Z.nb_false hc21)
          first
          | (exfalso; first | (cases hc21; done) | omega)
          | skip
            refine Z.j_skip ?_
            refine Z.j_blk ?_
            refine Z.j_then ?_
            refine Z.j_region ?_
            refine Z.s_val (Z.pv_add rfl rfl (by first | exact IntWalk.i64_in _ (by omega) | rfl)) ?_
            refine Z.s_val (Z.pv_move rfl) ?_
            refine Z.j_nil ?_
            refine Z.j_then ?_
            refine Z.j_own (T := 36) (k := 2) (m := r.ver.length) (cap := cap) (c := ((sortC r.ver).flatMap Cell.c)) (sp := sp) (by repeat (first | with_reducible exact Z.Take.here | apply Z.Take.there)) e2 e3 ?_
            rw [← e1, pairsR_snoc (by omega)]
            (refine Z.j_nextG (X := { x : (Nat) // (x) ≤ r.ver.length ∧ Z.fst stop [] (pairsR r.ver) = Z.fst stop ((pairsR r.ver).take (x)) ((pairsR r.ver).drop (x)) }) (EE := (fun (x : { x : (Nat) // (x) ≤ r.ver.length ∧ Z.fst stop [] (pairsR r.ver) = Z.fst stop ((pairsR r.ver).take (x)) ((pairsR r.ver).drop (x)) }) => [(0, .func (.yield l) #[] #[]), (1, .pointer (some ⟨b1, 0, none⟩)), (6, vS), (7, .int .i64 r.ver.length), (8, .int .i64 ((x.1) : Nat))])) (LL := (fun (x : { x : (Nat) // (x) ≤ r.ver.length ∧ Z.fst stop [] (pairsR r.ver) = Z.fst stop ((pairsR r.ver).take (x)) ((pairsR r.ver).drop (x)) }) => [Z.Own 36 2 vS r.ver.length ((sortC r.ver).flatMap Cell.c), Z.cl rb 29 [vO o, eO o, .int .i64 r.last], Z.MapV (vO o) Cell.e (Value.int .i64) r.ver, Z.MapV (eO o) Cell.e Value.bool r.ev, Z.cl b1 51 [.pointer (some ⟨rb, 0, none⟩)], A ((pairsR r.ver).take (x.1))])) (μ := (fun (x : { x : (Nat) // (x) ≤ r.ver.length ∧ Z.fst stop [] (pairsR r.ver) = Z.fst stop ((pairsR r.ver).take (x)) ((pairsR r.ver).drop (x)) }) => r.ver.length - (x.1))) (x := ⟨(i), hinv⟩) ⟨(i + 1), ⟨by omega, pairsR_go (by omega) hf hst⟩⟩ ?_ ?_ ?_; (show r.ver.length - (i + 1) < r.ver.length - i; omega); (exact (by repeat (first | exact trivial | refine ⟨rfl, ?_⟩))); (exact Z.st_td (by repeat (first | with_reducible exact Z.Takes.nil | (apply Z.Takes.cons; (repeat (first | with_reducible exact Z.Take.here | apply Z.Take.there))))) (by repeat (first | with_reducible exact Z.Drop.nil | apply Z.Drop.cons))))
  · try (with_reducible first | replace hc9 := of_decide_eq_true hc9 | replace hc9 := of_decide_eq_false hc9 | replace hc9 := Z.nd_true hc9 | replace hc9 := Z.nd_false hc9 | replace hc9 := Z.nn_true hc9 | replace hc9 := Z.nn_false hc9 | replace hc9 := Z.nb_true hc9 | replace hc9 := Z.nb_false hc9)
    first
    | (exfalso; first | (cases hc9; done) | omega)
    | skip
      have hfe := pairsR_end (by omega) hf
      rw [List.take_of_length_le (by rw [pairsR_len]; omega)]
      refine Z.j_exit ?_
      refine Z.j_then_exit ?_
      refine Z.j_then_exit ?_
      refine Z.j_blk_here rfl ?_
      refine Z.j_fold (A := RowP rb r) (As := [Z.cl rb 29 [vO o, eO o, .int .i64 r.last], Z.MapV (vO o) Cell.e (Value.int .i64) r.ver, Z.MapV (eO o) Cell.e Value.bool r.ev]) (by repeat (first | with_reducible exact Z.Takes.nil | (apply Z.Takes.cons; (repeat (first | with_reducible exact Z.Take.here | apply Z.Take.there))))) (fun _ H => ⟨o, H⟩) ?_
      refine Z.j_done Z.rv0 ?_
      first | exact Z.post_of (Qs := [Z.cl b1 51 [.pointer (some ⟨rb, 0, none⟩)], RowP rb r, B ((pairsR r.ver).take i) (qAt r.ver i)]) (by rw [Z.finS_stop (pairsR_stop (by omega) hf hst)]) (by repeat (first | with_reducible exact Z.Takes.nil | (apply Z.Takes.cons; (repeat (first | with_reducible exact Z.Take.here | apply Z.Take.there))))) (by repeat (first | with_reducible exact Z.Drop.nil | apply Z.Drop.cons)) | exact Z.post_of (Qs := [Z.cl b1 51 [.pointer (some ⟨rb, 0, none⟩)], RowP rb r, A (pairsR r.ver)]) (by rw [Z.finS_end hfe]) (by repeat (first | with_reducible exact Z.Takes.nil | (apply Z.Takes.cons; (repeat (first | with_reducible exact Z.Take.here | apply Z.Take.there))))) (by repeat (first | with_reducible exact Z.Drop.nil | apply Z.Drop.cons))


theorem all_iter (w0 : World) (rb : Nat) (r : RSt) (b1 : Nat) (hr : r.ok) : Z.IterS Try.prog w0 33 [.pointer (some ⟨b1, 0, none⟩)] (fun x : CI => [x.1.e, .int .i64 x.2]) (pairsR r.ver) [Z.cl b1 51 [.pointer (some ⟨rb, 0, none⟩)], RowP rb r] [Z.cl b1 51 [.pointer (some ⟨rb, 0, none⟩)], RowP rb r] :=
  fun l A B stop hY => all1_spec w0 rb r b1 hr l A B stop hY

set_option maxHeartbeats 4000000 in
set_option maxRecDepth 100000 in
theorem cells_spec (w0 : World) (rb : Nat) (r : RSt) (most : Int) (hr : r.ok) : Z.Fn Try.prog w0 19 [.pointer (some ⟨rb, 0, none⟩), .int .i64 most] [RowP rb r] (fun v Q => ∃ vx vy, v = .tuple #[vx, vy] ∧ Q = [RowP rb r, Z.Own 36 2 vx (ssR r.ver most).length (((ssR r.ver most).map (·.1)).flatMap Cell.c), Z.Own 3 1 vy (ssR r.ver most).length (i64s ((ssR r.ver most).map (·.2)))]) := by
  have hlen := hr.len
  have hl1 := hr.l1
  refine Z.fn_enterM (n := 36) Try.func19 rfl (by rfl) (by rfl) (fun Fr => ?_)
  refine Z.j_app (by repeat (first | exact Z.App.nil | apply Z.App.cons)) ?_
  refine Z.j_seq ?_
  refine Z.j_region ?_
  refine Z.s_box1 rfl rfl (fun b3 => ?_)
  refine Z.s_alloc1 Try.zeroValue30 rfl (fun b4 => ?_)
  refine Z.s_alloc1 Try.zeroValue48 rfl (fun b5 => ?_)
  refine Z.j_nil ?_
  refine Z.j_then ?_
  refine Z.j_seq ?_
  refine Z.j_region ?_
  refine Z.s_buildSlice rfl Try.underlying30 Try.zeroValue36 Try.sizeOf36 rfl rfl rfl rfl (fun b10 => ?_)
  refine Z.s_buildSlice rfl Try.underlying48 Try.zeroValue3 Try.sizeOf3 rfl rfl rfl rfl (fun b11 => ?_)
  refine Z.s_alloc1 Try.zeroValue30 rfl (fun b6 => ?_)
  refine Z.s_alloc1 Try.zeroValue48 rfl (fun b7 => ?_)
  refine Z.s_store1 rfl rfl (by first | rfl | assumption) Try.sizeOf30 (by repeat (first | with_reducible exact Z.Upd.here | apply Z.Upd.there)) (by rfl) ?_
  refine Z.s_store1 rfl rfl (by first | rfl | assumption) Try.sizeOf48 (by repeat (first | with_reducible exact Z.Upd.here | apply Z.Upd.there)) (by rfl) ?_
  refine Z.j_nil ?_
  refine Z.j_then ?_
  refine Z.j_seq ?_
  refine Z.j_seq ?_
  refine Z.j_region ?_
  refine Z.s_val (Z.pv_load1 rfl (by repeat (first | with_reducible exact Z.Take.here | apply Z.Take.there)) Try.isAgg3 (by rfl)) ?_
  refine Z.s_val (Z.pv_leq rfl rfl) ?_
  refine Z.j_nil ?_
  refine Z.j_then ?_
  refine Z.j_cond rfl (fun hc13 => ?_) (fun hc13 => ?_)
  · try (with_reducible first | replace hc13 := of_decide_eq_true hc13 | replace hc13 := of_decide_eq_false hc13 | replace hc13 := Z.nd_true hc13 | replace hc13 := Z.nd_false hc13 | replace hc13 := Z.nn_true hc13 | replace hc13 := Z.nn_false hc13 | replace hc13 := Z.nb_true hc13 | replace hc13 := Z.nb_false hc13)
    first
    | (exfalso; first | (cases hc13; done) | omega)
    | skip
      refine Z.j_seq ?_
      refine Z.j_drawC (vals := [_, _, _, _]) 4 [2, 3] [.pin 0, .fl, .ch 0, .ch 1] [Z.cl b7 _ _] [_, _, _] (by kernel_rfl) (by kernel_rfl) (by kernel_rfl) rfl (by rfl) rfl (by repeat (first | with_reducible exact Z.Takes.nil | (apply Z.Takes.cons; (repeat (first | with_reducible exact Z.Take.here | apply Z.Take.there))))) (Z.hc_cons (Z.hk_pin (by rfl) (Z.pv_load1 (by rfl) (by repeat (first | with_reducible exact Z.Take.here | apply Z.Take.there)) Try.isAgg30 (by rfl))) (Z.hc_cons (Z.hk_fl (Z.pv_load1 (by rfl) (by repeat (first | with_reducible exact Z.Take.here | apply Z.Take.there)) Try.isAgg48 (by rfl))) (Z.hc_cons (Z.hk_store1 (by rfl) (by rfl) (by rfl) (by first | rfl | assumption) (by exact Try.sizeOf30) (by repeat (first | with_reducible exact Z.Upd.here | apply Z.Upd.there)) (by rfl) (by rfl)) (Z.hc_cons (Z.hk_store1 (by rfl) (by rfl) (by rfl) (by first | rfl | assumption) (by exact Try.sizeOf48) (by repeat (first | with_reducible exact Z.Upd.here | apply Z.Upd.there)) (by rfl) (by rfl)) Z.hc_nil)))) (Z.Holds.cons (by repeat (first | with_reducible exact Z.Takes.nil | (apply Z.Takes.cons; (repeat (first | with_reducible exact Z.Take.here | apply Z.Take.there))))) (Z.Holds.cons (by repeat (first | with_reducible exact Z.Takes.nil | (apply Z.Takes.cons; (repeat (first | with_reducible exact Z.Take.here | apply Z.Take.there))))) (Z.Holds.cons (by repeat (first | with_reducible exact Z.Takes.nil | (apply Z.Takes.cons; (repeat (first | with_reducible exact Z.Take.here | apply Z.Take.there))))) Z.Holds.nil))) rfl rfl ?_
      refine Z.J.own_mk (T := 36) (k := 2) (m := 0) (b := b10) (by repeat (first | with_reducible exact Z.Take.here | apply Z.Take.there)) rfl ?_
      refine Z.J.own_mk (T := 3) (k := 1) (m := 0) (b := b11) (by repeat (first | with_reducible exact Z.Take.here | apply Z.Take.there)) rfl ?_
      refine Z.j_nil ?_
      refine Z.j_then ?_
      refine Z.j_ret ?_
      refine Z.j_then_ret ?_
      refine Z.j_doneM_ret (bs := []) .nil (Z.rv2 (Z.rv_cell1 (x := 4) (T := 30) rfl (by repeat (first | with_reducible exact Z.Take.here | apply Z.Take.there)) Try.isAgg30 (by rfl)) (Z.rv_cell1 (x := 5) (T := 48) rfl (by repeat (first | with_reducible exact Z.Take.here | apply Z.Take.there)) Try.isAgg48 (by rfl))) ?_
      first | exact Z.post_of (Qs := [RowP rb r, Z.Own 36 2 (.slice (some ⟨b10, 0, none⟩) 0 0) 0 [], Z.Own 3 1 (.slice (some ⟨b11, 0, none⟩) 0 0) 0 []]) ⟨_, _, rfl, by rw [ssR_nil hc13]; rfl⟩ (by repeat (first | with_reducible exact Z.Takes.nil | (apply Z.Takes.cons; (repeat (first | with_reducible exact Z.Take.here | apply Z.Take.there))))) (by repeat (first | with_reducible exact Z.Drop.nil | apply Z.Drop.cons)) | exact Z.post_of ⟨vx, vy, rfl, by rw [ssR_end hc13 hfs0]⟩ (by repeat (first | with_reducible exact Z.Takes.nil | (apply Z.Takes.cons; (repeat (first | with_reducible exact Z.Take.here | apply Z.Take.there))))) (by repeat (first | with_reducible exact Z.Drop.nil | apply Z.Drop.cons)) | exact Z.post_of ⟨vx, vy, rfl, by rw [ssR_ret hc13 hfs0]⟩ (by repeat (first | with_reducible exact Z.Takes.nil | (apply Z.Takes.cons; (repeat (first | with_reducible exact Z.Take.here | apply Z.Take.there))))) (by repeat (first | with_reducible exact Z.Drop.nil | apply Z.Drop.cons))
  · try (with_reducible first | replace hc13 := of_decide_eq_true hc13 | replace hc13 := of_decide_eq_false hc13 | replace hc13 := Z.nd_true hc13 | replace hc13 := Z.nd_false hc13 | replace hc13 := Z.nn_true hc13 | replace hc13 := Z.nn_false hc13 | replace hc13 := Z.nb_true hc13 | replace hc13 := Z.nb_false hc13)
    first
    | (exfalso; first | (cases hc13; done) | omega)
    | skip
      refine Z.j_skip ?_
      refine Z.j_then ?_
      refine Z.j_seq ?_
      refine Z.j_seq ?_
      refine Z.j_region ?_
      refine Z.s_val (Z.pv_move rfl) ?_
      refine Z.s_call rfl rfl rfl isFn27 (by repeat (first | with_reducible exact Z.Takes.nil | (apply Z.Takes.cons; (repeat (first | with_reducible exact Z.Take.here | apply Z.Take.there))))) (all_spec _ _) ?_
      rintro _ _ ⟨ab, rfl, rfl⟩
      refine Z.j_app (by repeat (first | exact Z.App.nil | apply Z.App.cons)) ?_
      refine Z.j_nil ?_
      refine Z.j_then ?_
      refine Z.j_block ?_
      refine Z.J.own_mk (T := 36) (k := 2) (m := 0) (b := b10) (by repeat (first | with_reducible exact Z.Take.here | apply Z.Take.there)) rfl ?_
      refine Z.J.own_mk (T := 3) (k := 1) (m := 0) (b := b11) (by repeat (first | with_reducible exact Z.Take.here | apply Z.Take.there)) rfl ?_
      refine Z.j_fold (A := S2 b6 b7 []) (As := [Z.cl b6 30 [.slice (some ⟨b10, 0, none⟩) 0 0], Z.cl b7 48 [.slice (some ⟨b11, 0, none⟩) 0 0], Z.Own 36 2 (.slice (some ⟨b10, 0, none⟩) 0 0) 0 [], Z.Own 3 1 (.slice (some ⟨b11, 0, none⟩) 0 0) 0 []]) (by repeat (first | with_reducible exact Z.Takes.nil | (apply Z.Takes.cons; (repeat (first | with_reducible exact Z.Take.here | apply Z.Take.there))))) (fun _ H => ⟨⟨(_, _), rfl, rfl⟩, H⟩) ?_
      refine Z.j_rangeFuncY (Y := Nat) (enc := (fun x : CI => [x.1.e, .int .i64 x.2])) (xs := (pairsR r.ver)) (fun pre => [S2 b6 b7 pre, Z.cl b3 3 [.int .i64 most], Z.cl b4 30 [.slice none 0 0], Z.cl b5 48 [.slice none 0 0]]) (fun pre x y => [(3, .pointer (some ⟨b3, 0, none⟩)), (4, .pointer (some ⟨b4, 0, none⟩)), (5, .pointer (some ⟨b5, 0, none⟩)), (6, .pointer (some ⟨b6, 0, none⟩)), (7, .pointer (some ⟨b7, 0, none⟩)), (8, .pointer (some ⟨y, 0, none⟩)), (9, .int .i64 x.2)]) (fun pre x y => [S2 b6 b7 pre, Z.cl b3 3 [.int .i64 most], Z.cl b4 30 [.slice none 0 0], Z.cl b5 48 [.slice none 0 0], Z.cl y 36 [.int .i64 x.1.l, .int .u32 x.1.k]]) (fun pre x => [S2 b4 b5 (pre ++ [x])]) (fun pre x => stopC most pre x) rfl isFn33 (fun _ => rfl) (by decide) (by repeat (first | with_reducible exact Z.Takes.nil | (apply Z.Takes.cons; (repeat (first | with_reducible exact Z.Take.here | apply Z.Take.there))))) (all_iter w0 rb r ab hr) (fun l0 pre x suf Fr0 hx0 => ?_) (fun l0 pre x y suf Fr0 hx0 => ?_) (fun hfs0 bk0 => ?_) (fun pre x hfs0 bk0 => ?_)
      · show Z.J _ _ _ _ ([S2 b6 b7 pre, Z.cl b3 3 [.int .i64 most], Z.cl b4 30 [.slice none 0 0], Z.cl b5 48 [.slice none 0 0]] ++ Fr0) _
        refine Z.j_app (by repeat (first | exact Z.App.nil | apply Z.App.cons)) ?_
        refine Z.j_seq ?_
        refine Z.j_region ?_
        refine Z.s_alloc Try.zeroValue36 (fun b8 => ?_)
        refine Z.s_storeA rfl rfl Try.sizeOf36 rfl (by repeat (first | with_reducible exact Z.Upd.here | apply Z.Upd.there)) (by rfl) ?_
        refine Z.j_nil ?_
        refine Z.j_then ?_
        refine Z.j_region ?_
        refine Z.s_val (Z.pv_assign rfl) ?_
        refine Z.j_nil ?_
        refine Z.j_then ?_
        exact Z.j_assignedY (b8) (by repeat (first | exact trivial | refine ⟨rfl, ?_⟩)) (by repeat (first | with_reducible exact Z.Takes.nil | (apply Z.Takes.cons; (repeat (first | with_reducible exact Z.Take.here | apply Z.Take.there))))) (by repeat (first | with_reducible exact Z.Drop.nil | apply Z.Drop.cons))
      · show Z.J _ _ _ ([(3, .pointer (some ⟨b3, 0, none⟩)), (4, .pointer (some ⟨b4, 0, none⟩)), (5, .pointer (some ⟨b5, 0, none⟩)), (6, .pointer (some ⟨b6, 0, none⟩)), (7, .pointer (some ⟨b7, 0, none⟩)), (8, .pointer (some ⟨y, 0, none⟩)), (9, .int .i64 x.2)]) ([S2 b6 b7 pre, Z.cl b3 3 [.int .i64 most], Z.cl b4 30 [.slice none 0 0], Z.cl b5 48 [.slice none 0 0], Z.cl y 36 [.int .i64 x.1.l, .int .u32 x.1.k]] ++ Fr0) _
        refine Z.j_app (by repeat (first | exact Z.App.nil | apply Z.App.cons)) ?_
        have hpl := preR_len hx0
        refine Z.j_open (A := S2 b6 b7 pre) (by repeat (first | with_reducible exact Z.Take.here | apply Z.Take.there)) (fun _ H => H) (fun p => ?_)
        obtain ⟨⟨vx, vy⟩, hvx, hvy⟩ := p
        show Z.J _ _ _ _ (S2F b6 b7 vx vy pre ++ _) _
        unfold S2F
        refine Z.j_app (by repeat (first | exact Z.App.nil | apply Z.App.cons)) ?_
        refine Z.j_block ?_
        refine Z.j_seq ?_
        refine Z.j_drawT [⟨none, (some 8), [0], fun ρ => Z.cl b6 30 [vx]⟩, ⟨none, (some 9), [4], fun ρ => Z.cl b7 48 [vy]⟩, ⟨none, none, [1], fun ρ => Z.cl y 36 [.int .i64 x.1.l, .int .u32 x.1.k]⟩, ⟨none, (some 3), [], fun ρ => Z.Own 36 2 vx pre.length ((pre.map (·.1)).flatMap Cell.c)⟩, ⟨none, (some 7), [], fun ρ => Z.Own 3 1 vy pre.length (i64s (pre.map (·.2)))⟩, ⟨(some 2), (some 3), [], fun ρ => Z.Own 36 2 (ρ 2) 1 [.int .i64 x.1.l, .int .u32 x.1.k]⟩, ⟨(some 3), (some 8), [], fun ρ => Z.Own 36 2 (ρ 3) (pre.length + 1) (((pre.map (·.1)).flatMap Cell.c) ++ [.int .i64 x.1.l, .int .u32 x.1.k])⟩, ⟨(some 6), (some 7), [], fun ρ => Z.Own 3 1 (ρ 6) 1 [.int .i64 x.2]⟩, ⟨(some 7), (some 9), [], fun ρ => Z.Own 3 1 (ρ 7) (pre.length + 1) ((i64s (pre.map (·.2))) ++ [.int .i64 x.2])⟩, ⟨(some 8), none, [], fun ρ => Z.cl b6 30 [ρ 3]⟩, ⟨(some 8), none, [], fun ρ => Z.Own 36 2 (ρ 3) (pre.length + 1) (((pre.map (·.1)).flatMap Cell.c) ++ [.int .i64 x.1.l, .int .u32 x.1.k])⟩, ⟨(some 9), none, [], fun ρ => Z.cl b7 48 [ρ 7]⟩, ⟨(some 9), none, [], fun ρ => Z.Own 3 1 (ρ 7) (pre.length + 1) ((i64s (pre.map (·.2))) ++ [.int .i64 x.2])⟩] [2, 3, 6, 7, 8, 9] (fun ρ => [vx, .agg #[.int .i64 x.1.l, .int .u32 x.1.k], ρ 2, ρ 3, vy, .int .i64 x.2, ρ 6, ρ 7, ρ 8, ρ 9]) (by kernel_rfl) (by kernel_rfl) (by rfl) (fun _ => rfl) ⟨fun _ _ => rfl, fun _ _ => rfl, ⟨fun _ _ => rfl, fun _ _ => rfl, ⟨fun _ _ => rfl, fun _ _ => rfl, ⟨fun _ _ => rfl, fun _ _ => rfl, ⟨fun _ _ => rfl, fun _ _ => rfl, ⟨fun _ _ => rfl, fun _ _ => rfl, trivial⟩⟩⟩⟩⟩⟩ (fun ρ => (by repeat (first | with_reducible exact Z.Takes.nil | (apply Z.Takes.cons; (repeat (first | with_reducible exact Z.Take.here | apply Z.Take.there))) | exact Z.Takes.nil))) ?_ (fun ρ => ?_)
        · skip
          refine Z.tops_cons ?_ ?_
          · refine Z.top_q (fun ρ => vx) rfl (fun _ => rfl) (fun ρ Rr => ?_)
            show Z.HQ _ _ _ _ _ _ (Z.cl b6 30 [vx] :: Rr) _ _
            exact (Z.hq_val (Z.pv_load1 rfl (by repeat (first | with_reducible exact Z.Take.here | apply Z.Take.there)) Try.isAgg30 (by rfl)))
          refine Z.tops_cons ?_ ?_
          · refine Z.top_q (fun ρ => .agg #[.int .i64 x.1.l, .int .u32 x.1.k]) rfl (fun _ => rfl) (fun ρ Rr => ?_)
            show Z.HQ _ _ _ _ _ _ (Z.cl y 36 [.int .i64 x.1.l, .int .u32 x.1.k] :: Rr) _ _
            exact (Z.hq_val (Z.pv_loadA rfl (by repeat (first | with_reducible exact Z.Take.here | apply Z.Take.there)) Try.isAgg36 Try.sizeOf36 (by rfl)))
          refine Z.tops_cons ?_ ?_
          · refine Z.top_c rfl (fun ρ Rr => ?_)
            refine Z.hn_of rfl (by rfl) rfl (by rfl) ?_
            show Z.J _ _ _ _ ([] ++ Rr) _
            refine Z.j_app (by repeat (first | exact Z.App.nil | apply Z.App.cons)) ?_
            refine Z.s_buildSlice rfl Try.underlying30 Try.zeroValue36 Try.sizeOf36 rfl rfl rfl rfl (fun b22 => ?_)
            refine Z.J.own_mk (T := 36) (k := 2) (m := 1) (c := [.int .i64 x.1.l, .int .u32 x.1.k]) (by repeat (first | with_reducible exact Z.Take.here | apply Z.Take.there)) rfl ?_
            refine Z.j_nil ?_
            refine Z.hn_end (by rfl) (fun w hs => ⟨rfl, Z.st_td (by repeat (first | with_reducible exact Z.Takes.nil | (apply Z.Takes.cons; (repeat (first | exact Z.Take.here | apply Z.Take.there))) | exact Z.Takes.nil)) (by repeat (first | with_reducible exact Z.Drop.nil | apply Z.Drop.cons)) w hs⟩)
          refine Z.tops_cons ?_ ?_
          · refine Z.top_c rfl (fun ρ Rr => ?_)
            refine Z.hn_of rfl (by rfl) rfl (by rfl) ?_
            show Z.J _ _ _ _ ([Z.Own 36 2 vx pre.length ((pre.map (·.1)).flatMap Cell.c), Z.Own 36 2 (ρ 2) 1 [.int .i64 x.1.l, .int .u32 x.1.k]] ++ Rr) _
            refine Z.j_app (by repeat (first | exact Z.App.nil | apply Z.App.cons)) ?_
            refine Z.j_unown (T := 36) (k := 2) (v := ρ 2) (by repeat (first | with_reducible exact Z.Take.here | apply Z.Take.there)) (fun e1 e2 e3 => by cases e2) (fun nb cap sp e1 e2 e3 => ?_)
            refine Z.s_append (k := 2) (by' := 16) (cap2 := cap) rfl (by show some (ρ 2) = _; rw [e1]) (by repeat (first | with_reducible exact Z.Take.here | apply Z.Take.there)) (Z.reads_cl (by repeat (first | with_reducible exact Z.Take.here | apply Z.Take.there)) (k := 2) (slc_two _ _ _)) Try.underlying30 Try.typeInfo36 rfl rfl rfl rfl rfl rfl (.inl (by omega)) (by omega) (by omega) (fun v23 hv23 => ?_)
            refine Z.j_nil ?_
            refine Z.hn_end (by rfl) (fun w hs => ⟨rfl, Z.st_td (by repeat (first | with_reducible exact Z.Takes.nil | (apply Z.Takes.cons; (repeat (first | exact Z.Take.here | apply Z.Take.there))) | exact Z.Takes.nil)) (by repeat (first | with_reducible exact Z.Drop.nil | apply Z.Drop.cons)) w hs⟩)
          refine Z.tops_cons ?_ ?_
          · refine Z.top_q (fun ρ => vy) rfl (fun _ => rfl) (fun ρ Rr => ?_)
            show Z.HQ _ _ _ _ _ _ (Z.cl b7 48 [vy] :: Rr) _ _
            exact (Z.hq_val (Z.pv_load1 rfl (by repeat (first | with_reducible exact Z.Take.here | apply Z.Take.there)) Try.isAgg48 (by rfl)))
          refine Z.tops_cons ?_ ?_
          · refine Z.top_q (fun ρ => .int .i64 x.2) rfl (fun _ => rfl) (fun ρ Rr => ?_)
            show Z.HQ _ _ _ _ _ _ (Rr) _ _
            exact (Z.hq_val (Z.pv_move rfl))
          refine Z.tops_cons ?_ ?_
          · refine Z.top_c rfl (fun ρ Rr => ?_)
            refine Z.hn_of rfl (by rfl) rfl (by rfl) ?_
            show Z.J _ _ _ _ ([] ++ Rr) _
            refine Z.j_app (by repeat (first | exact Z.App.nil | apply Z.App.cons)) ?_
            refine Z.s_buildSlice rfl Try.underlying48 Try.zeroValue3 Try.sizeOf3 rfl rfl rfl rfl (fun b26 => ?_)
            refine Z.J.own_mk (T := 3) (k := 1) (m := 1) (c := [.int .i64 x.2]) (by repeat (first | with_reducible exact Z.Take.here | apply Z.Take.there)) rfl ?_
            refine Z.j_nil ?_
            refine Z.hn_end (by rfl) (fun w hs => ⟨rfl, Z.st_td (by repeat (first | with_reducible exact Z.Takes.nil | (apply Z.Takes.cons; (repeat (first | exact Z.Take.here | apply Z.Take.there))) | exact Z.Takes.nil)) (by repeat (first | with_reducible exact Z.Drop.nil | apply Z.Drop.cons)) w hs⟩)
          refine Z.tops_cons ?_ ?_
          · refine Z.top_c rfl (fun ρ Rr => ?_)
            refine Z.hn_of rfl (by rfl) rfl (by rfl) ?_
            show Z.J _ _ _ _ ([Z.Own 3 1 vy pre.length (i64s (pre.map (·.2))), Z.Own 3 1 (ρ 6) 1 [.int .i64 x.2]] ++ Rr) _
            refine Z.j_app (by repeat (first | exact Z.App.nil | apply Z.App.cons)) ?_
            refine Z.j_unown (T := 3) (k := 1) (v := ρ 6) (by repeat (first | with_reducible exact Z.Take.here | apply Z.Take.there)) (fun e1 e2 e3 => by cases e2) (fun nb cap sp e1 e2 e3 => ?_)
            refine Z.s_append (k := 1) (by' := 8) (cap2 := cap) rfl (by show some (ρ 6) = _; rw [e1]) (by repeat (first | with_reducible exact Z.Take.here | apply Z.Take.there)) (Z.reads_cl (by repeat (first | with_reducible exact Z.Take.here | apply Z.Take.there)) (k := 1) (slc_one _ _)) Try.underlying48 Try.typeInfo3 rfl rfl rfl rfl rfl rfl (.inl (by omega)) (by omega) (by omega) (fun v27 hv27 => ?_)
            refine Z.j_nil ?_
            refine Z.hn_end (by rfl) (fun w hs => ⟨rfl, Z.st_td (by repeat (first | with_reducible exact Z.Takes.nil | (apply Z.Takes.cons; (repeat (first | exact Z.Take.here | apply Z.Take.there))) | exact Z.Takes.nil)) (by repeat (first | with_reducible exact Z.Drop.nil | apply Z.Drop.cons)) w hs⟩)
          refine Z.tops_cons ?_ ?_
          · refine Z.top_c rfl (fun ρ Rr => ?_)
            refine Z.hn_of0 rfl (by rfl) rfl ?_
            show Z.J _ _ _ _ ([Z.cl b6 30 [vx], Z.Own 36 2 (ρ 3) (pre.length + 1) (((pre.map (·.1)).flatMap Cell.c) ++ [.int .i64 x.1.l, .int .u32 x.1.k])] ++ Rr) _
            refine Z.j_app (by repeat (first | exact Z.App.nil | apply Z.App.cons)) ?_
            refine Z.s_storeO (T2 := 36) (k := 2) rfl rfl (by repeat (first | with_reducible exact Z.Take.here | apply Z.Take.there)) Try.sizeOf30 (by repeat (first | with_reducible exact Z.Upd.here | apply Z.Upd.there)) (by rfl) ?_
            refine Z.j_nil ?_
            refine Z.hn_end0 (fun _ w hs => ⟨rfl, Z.st_td (by repeat (first | with_reducible exact Z.Takes.nil | (apply Z.Takes.cons; (repeat (first | exact Z.Take.here | apply Z.Take.there))) | exact Z.Takes.nil)) (by repeat (first | with_reducible exact Z.Drop.nil | apply Z.Drop.cons)) w hs⟩)
          refine Z.tops_cons ?_ ?_
          · refine Z.top_c rfl (fun ρ Rr => ?_)
            refine Z.hn_of0 rfl (by rfl) rfl ?_
            show Z.J _ _ _ _ ([Z.cl b7 48 [vy], Z.Own 3 1 (ρ 7) (pre.length + 1) ((i64s (pre.map (·.2))) ++ [.int .i64 x.2])] ++ Rr) _
            refine Z.j_app (by repeat (first | exact Z.App.nil | apply Z.App.cons)) ?_
            refine Z.s_storeO (T2 := 3) (k := 1) rfl rfl (by repeat (first | with_reducible exact Z.Take.here | apply Z.Take.there)) Try.sizeOf48 (by repeat (first | with_reducible exact Z.Upd.here | apply Z.Upd.there)) (by rfl) ?_
            refine Z.j_nil ?_
            refine Z.hn_end0 (fun _ w hs => ⟨rfl, Z.st_td (by repeat (first | with_reducible exact Z.Takes.nil | (apply Z.Takes.cons; (repeat (first | exact Z.Take.here | apply Z.Take.there))) | exact Z.Takes.nil)) (by repeat (first | with_reducible exact Z.Drop.nil | apply Z.Drop.cons)) w hs⟩)
          exact Z.tops_nil
        · show Z.J _ _ _ _ ([Z.cl y 36 [.int .i64 x.1.l, .int .u32 x.1.k], Z.cl b6 30 [ρ 3], Z.Own 36 2 (ρ 3) (pre.length + 1) (((pre.map (·.1)).flatMap Cell.c) ++ [.int .i64 x.1.l, .int .u32 x.1.k]), Z.cl b7 48 [ρ 7], Z.Own 3 1 (ρ 7) (pre.length + 1) ((i64s (pre.map (·.2))) ++ [.int .i64 x.2])] ++ _) _
          refine Z.j_app (by repeat (first | exact Z.App.nil | apply Z.App.cons)) ?_
          refine Z.J.own_one (T := 36) (k := 2) (v := ρ 3) (by repeat (first | with_reducible exact Z.Take.here | apply Z.Take.there)) (fun hv23 => ?_)
          refine Z.J.own_one (T := 3) (k := 1) (v := ρ 7) (by repeat (first | with_reducible exact Z.Take.here | apply Z.Take.there)) (fun hv27 => ?_)
          refine Z.j_fold (A := S2 b6 b7 (pre ++ [x])) (As := [Z.cl b6 30 [ρ 3], Z.cl b7 48 [ρ 7], Z.Own 36 2 (ρ 3) (pre.length + 1) (((pre.map (·.1)).flatMap Cell.c) ++ [.int .i64 x.1.l, .int .u32 x.1.k]), Z.Own 3 1 (ρ 7) (pre.length + 1) ((i64s (pre.map (·.2))) ++ [.int .i64 x.2])]) (by repeat (first | with_reducible exact Z.Takes.nil | (apply Z.Takes.cons; (repeat (first | with_reducible exact Z.Take.here | apply Z.Take.there))))) (fun _ H => ⟨⟨(ρ 3, ρ 7), hv23, hv27⟩, by simpa [S2F, i64s, Cell.c] using H⟩) ?_
          refine Z.j_then ?_
          refine Z.j_seq ?_
          refine Z.j_open (A := S2 b6 b7 (pre ++ [x])) (by repeat (first | with_reducible exact Z.Take.here | apply Z.Take.there)) (fun _ H => H) (fun p => ?_)
          obtain ⟨⟨vx, vy⟩, hvx, hvy⟩ := p
          show Z.J _ _ _ _ (S2F b6 b7 vx vy (pre ++ [x]) ++ _) _
          unfold S2F
          refine Z.j_app (by repeat (first | exact Z.App.nil | apply Z.App.cons)) ?_
          refine Z.j_region ?_
          refine Z.s_val (Z.pv_load1 rfl (by repeat (first | with_reducible exact Z.Take.here | apply Z.Take.there)) Try.isAgg30 (by rfl)) ?_
          refine Z.s_val (Z.pv_lenO rfl (by repeat (first | with_reducible exact Z.Take.here | apply Z.Take.there)) Try.underlying30) ?_
          refine Z.s_val (Z.pv_load1 rfl (by repeat (first | with_reducible exact Z.Take.here | apply Z.Take.there)) Try.isAgg3 (by rfl)) ?_
          refine Z.s_val (Z.pv_eql rfl rfl) ?_
          refine Z.j_nil ?_
          refine Z.j_then ?_
          refine Z.j_cond rfl (fun hc31 => ?_) (fun hc31 => ?_)
          · try (with_reducible first | replace hc31 := of_decide_eq_true hc31 | replace hc31 := of_decide_eq_false hc31 | replace hc31 := Z.nd_true hc31 | replace hc31 := Z.nd_false hc31 | replace hc31 := Z.nn_true hc31 | replace hc31 := Z.nn_false hc31 | replace hc31 := Z.nb_true hc31 | replace hc31 := Z.nb_false hc31)
            first
            | (exfalso; first | (cases hc31; done) | omega)
            | skip
              refine Z.j_seq ?_
              refine Z.j_drawC (vals := [_, _, _, _]) 4 [2, 3] [.pin 0, .fl, .ch 0, .ch 1] [Z.cl b7 _ _] [_, _, _] (by kernel_rfl) (by kernel_rfl) (by kernel_rfl) rfl (by rfl) rfl (by repeat (first | with_reducible exact Z.Takes.nil | (apply Z.Takes.cons; (repeat (first | with_reducible exact Z.Take.here | apply Z.Take.there))))) (Z.hc_cons (Z.hk_pin (by rfl) (Z.pv_load1 (by rfl) (by repeat (first | with_reducible exact Z.Take.here | apply Z.Take.there)) Try.isAgg30 (by rfl))) (Z.hc_cons (Z.hk_fl (Z.pv_load1 (by rfl) (by repeat (first | with_reducible exact Z.Take.here | apply Z.Take.there)) Try.isAgg48 (by rfl))) (Z.hc_cons (Z.hk_store1 (by rfl) (by rfl) (by rfl) (by first | rfl | assumption) (by exact Try.sizeOf30) (by repeat (first | with_reducible exact Z.Upd.here | apply Z.Upd.there)) (by rfl) (by rfl)) (Z.hc_cons (Z.hk_store1 (by rfl) (by rfl) (by rfl) (by first | rfl | assumption) (by exact Try.sizeOf48) (by repeat (first | with_reducible exact Z.Upd.here | apply Z.Upd.there)) (by rfl) (by rfl)) Z.hc_nil)))) (Z.Holds.cons (by repeat (first | with_reducible exact Z.Takes.nil | (apply Z.Takes.cons; (repeat (first | with_reducible exact Z.Take.here | apply Z.Take.there))))) (Z.Holds.cons (by repeat (first | with_reducible exact Z.Takes.nil | (apply Z.Takes.cons; (repeat (first | with_reducible exact Z.Take.here | apply Z.Take.there))))) (Z.Holds.cons (by repeat (first | with_reducible exact Z.Takes.nil | (apply Z.Takes.cons; (repeat (first | with_reducible exact Z.Take.here | apply Z.Take.there))))) Z.Holds.nil))) rfl rfl ?_
              refine Z.j_nil ?_
              refine Z.j_then ?_
              refine Z.j_ret ?_
              refine Z.j_blk_ret ?_
              refine Z.j_fold (A := S2 b4 b5 (pre ++ [x])) (As := [Z.cl b4 30 [vx], Z.cl b5 48 [vy], Z.Own 36 2 vx (pre ++ [x]).length (((pre ++ [x]).map (·.1)).flatMap Cell.c), Z.Own 3 1 vy (pre ++ [x]).length (i64s ((pre ++ [x]).map (·.2)))]) (by repeat (first | with_reducible exact Z.Takes.nil | (apply Z.Takes.cons; (repeat (first | with_reducible exact Z.Take.here | apply Z.Take.there))))) (fun _ H => ⟨⟨(vx, vy), hvx, hvy⟩, H⟩) ?_
              exact Z.j_rpR (by have := hc31; simp at this; simp [stopC, Nat.beq_eq]; omega) (by repeat (first | with_reducible exact Z.Takes.nil | (apply Z.Takes.cons; (repeat (first | with_reducible exact Z.Take.here | apply Z.Take.there))))) (by repeat (first | with_reducible exact Z.Drop.nil | apply Z.Drop.cons))
          · try (with_reducible first | replace hc31 := of_decide_eq_true hc31 | replace hc31 := of_decide_eq_false hc31 | replace hc31 := Z.nd_true hc31 | replace hc31 := Z.nd_false hc31 | replace hc31 := Z.nn_true hc31 | replace hc31 := Z.nn_false hc31 | replace hc31 := Z.nb_true hc31 | replace hc31 := Z.nb_false hc31)
            first
            | (exfalso; first | (cases hc31; done) | omega)
            | skip
              refine Z.j_skip ?_
              refine Z.j_blk ?_
              refine Z.j_fold (A := S2 b6 b7 (pre ++ [x])) (As := S2F b6 b7 vx vy (pre ++ [x])) (by repeat (first | with_reducible exact Z.Takes.nil | (apply Z.Takes.cons; (repeat (first | with_reducible exact Z.Take.here | apply Z.Take.there))))) (fun _ H => ⟨⟨(vx, vy), hvx, hvy⟩, H⟩) ?_
              exact Z.j_rpN (by have := hc31; simp at this; cases hb : stopC most pre x with | false => rfl | true => exfalso; have := Nat.eq_of_beq_eq_true hb; omega) (by repeat (first | with_reducible exact Z.Takes.nil | (apply Z.Takes.cons; (repeat (first | with_reducible exact Z.Take.here | apply Z.Take.there))))) (by repeat (first | with_reducible exact Z.Drop.nil | apply Z.Drop.cons))
      · refine Z.j_app2 (by repeat (first | exact Z.App.nil | apply Z.App.cons)) (by repeat (first | exact Z.App.nil | apply Z.App.cons)) ?_
        refine Z.j_blk ?_
        refine Z.j_then ?_
        refine Z.j_seq ?_
        refine Z.j_open (A := S2 b6 b7 (pairsR r.ver)) (by repeat (first | with_reducible exact Z.Take.here | apply Z.Take.there)) (fun _ H => H) (fun p => ?_)
        obtain ⟨⟨vx, vy⟩, hvx, hvy⟩ := p
        show Z.J _ _ _ _ (S2F b6 b7 vx vy (pairsR r.ver) ++ _) _
        unfold S2F
        refine Z.j_app (by repeat (first | exact Z.App.nil | apply Z.App.cons)) ?_
        refine Z.j_drawC (vals := [_, _, _, _]) 4 [2, 3] [.pin 0, .fl, .ch 0, .ch 1] [Z.cl b7 _ _] [_, _, _] (by kernel_rfl) (by kernel_rfl) (by kernel_rfl) rfl (by rfl) rfl (by repeat (first | with_reducible exact Z.Takes.nil | (apply Z.Takes.cons; (repeat (first | with_reducible exact Z.Take.here | apply Z.Take.there))))) (Z.hc_cons (Z.hk_pin (by rfl) (Z.pv_load1 (by rfl) (by repeat (first | with_reducible exact Z.Take.here | apply Z.Take.there)) Try.isAgg30 (by rfl))) (Z.hc_cons (Z.hk_fl (Z.pv_load1 (by rfl) (by repeat (first | with_reducible exact Z.Take.here | apply Z.Take.there)) Try.isAgg48 (by rfl))) (Z.hc_cons (Z.hk_store1 (by rfl) (by rfl) (by rfl) (by first | rfl | assumption) (by exact Try.sizeOf30) (by repeat (first | with_reducible exact Z.Upd.here | apply Z.Upd.there)) (by rfl) (by rfl)) (Z.hc_cons (Z.hk_store1 (by rfl) (by rfl) (by rfl) (by first | rfl | assumption) (by exact Try.sizeOf48) (by repeat (first | with_reducible exact Z.Upd.here | apply Z.Upd.there)) (by rfl) (by rfl)) Z.hc_nil)))) (Z.Holds.cons (by repeat (first | with_reducible exact Z.Takes.nil | (apply Z.Takes.cons; (repeat (first | with_reducible exact Z.Take.here | apply Z.Take.there))))) (Z.Holds.cons (by repeat (first | with_reducible exact Z.Takes.nil | (apply Z.Takes.cons; (repeat (first | with_reducible exact Z.Take.here | apply Z.Take.there))))) (Z.Holds.cons (by repeat (first | with_reducible exact Z.Takes.nil | (apply Z.Takes.cons; (repeat (first | with_reducible exact Z.Take.here | apply Z.Take.there))))) Z.Holds.nil))) rfl rfl ?_
        refine Z.j_nil ?_
        refine Z.j_then ?_
        refine Z.j_ret ?_
        refine Z.j_doneM_ret (bs := [bk0]) (.cons (by repeat (first | with_reducible exact Z.Take.here | apply Z.Take.there)) .nil) (Z.rv2 (Z.rv_cell1 (x := 4) (T := 30) rfl (by repeat (first | with_reducible exact Z.Take.here | apply Z.Take.there)) Try.isAgg30 (by rfl)) (Z.rv_cell1 (x := 5) (T := 48) rfl (by repeat (first | with_reducible exact Z.Take.here | apply Z.Take.there)) Try.isAgg48 (by rfl))) ?_
        first | exact Z.post_of (Qs := [RowP rb r, Z.Own 36 2 (.slice (some ⟨b10, 0, none⟩) 0 0) 0 [], Z.Own 3 1 (.slice (some ⟨b11, 0, none⟩) 0 0) 0 []]) ⟨_, _, rfl, by rw [ssR_nil hc13]; rfl⟩ (by repeat (first | with_reducible exact Z.Takes.nil | (apply Z.Takes.cons; (repeat (first | with_reducible exact Z.Take.here | apply Z.Take.there))))) (by repeat (first | with_reducible exact Z.Drop.nil | apply Z.Drop.cons)) | exact Z.post_of ⟨vx, vy, rfl, by rw [ssR_end hc13 hfs0]⟩ (by repeat (first | with_reducible exact Z.Takes.nil | (apply Z.Takes.cons; (repeat (first | with_reducible exact Z.Take.here | apply Z.Take.there))))) (by repeat (first | with_reducible exact Z.Drop.nil | apply Z.Drop.cons)) | exact Z.post_of ⟨vx, vy, rfl, by rw [ssR_ret hc13 hfs0]⟩ (by repeat (first | with_reducible exact Z.Takes.nil | (apply Z.Takes.cons; (repeat (first | with_reducible exact Z.Take.here | apply Z.Take.there))))) (by repeat (first | with_reducible exact Z.Drop.nil | apply Z.Drop.cons))
      · refine Z.j_app2 (by repeat (first | exact Z.App.nil | apply Z.App.cons)) (by repeat (first | exact Z.App.nil | apply Z.App.cons)) ?_
        refine Z.j_open (A := S2 b4 b5 (pre ++ [x])) (by repeat (first | with_reducible exact Z.Take.here | apply Z.Take.there)) (fun _ H => H) (fun p => ?_)
        obtain ⟨⟨vx, vy⟩, hvx, hvy⟩ := p
        show Z.J _ _ _ _ (S2F b4 b5 vx vy (pre ++ [x]) ++ _) _
        unfold S2F
        refine Z.j_app (by repeat (first | exact Z.App.nil | apply Z.App.cons)) ?_
        refine Z.j_blk_ret ?_
        refine Z.j_then_ret ?_
        refine Z.j_doneM_ret (bs := [bk0]) (.cons (by repeat (first | with_reducible exact Z.Take.here | apply Z.Take.there)) .nil) (Z.rv2 (Z.rv_cell1 (x := 4) (T := 30) rfl (by repeat (first | with_reducible exact Z.Take.here | apply Z.Take.there)) Try.isAgg30 (by rfl)) (Z.rv_cell1 (x := 5) (T := 48) rfl (by repeat (first | with_reducible exact Z.Take.here | apply Z.Take.there)) Try.isAgg48 (by rfl))) ?_
        first | exact Z.post_of (Qs := [RowP rb r, Z.Own 36 2 (.slice (some ⟨b10, 0, none⟩) 0 0) 0 [], Z.Own 3 1 (.slice (some ⟨b11, 0, none⟩) 0 0) 0 []]) ⟨_, _, rfl, by rw [ssR_nil hc13]; rfl⟩ (by repeat (first | with_reducible exact Z.Takes.nil | (apply Z.Takes.cons; (repeat (first | with_reducible exact Z.Take.here | apply Z.Take.there))))) (by repeat (first | with_reducible exact Z.Drop.nil | apply Z.Drop.cons)) | exact Z.post_of ⟨vx, vy, rfl, by rw [ssR_end hc13 hfs0]⟩ (by repeat (first | with_reducible exact Z.Takes.nil | (apply Z.Takes.cons; (repeat (first | with_reducible exact Z.Take.here | apply Z.Take.there))))) (by repeat (first | with_reducible exact Z.Drop.nil | apply Z.Drop.cons)) | exact Z.post_of ⟨vx, vy, rfl, by rw [ssR_ret hc13 hfs0]⟩ (by repeat (first | with_reducible exact Z.Takes.nil | (apply Z.Takes.cons; (repeat (first | with_reducible exact Z.Take.here | apply Z.Take.there))))) (by repeat (first | with_reducible exact Z.Drop.nil | apply Z.Drop.cons))

end Go.Proofs.Ytleofndjeekalaa
