/- Token: the table's walks. -/
import Derived.Test.YtjilnmjjehkidaaT0
import Derived.KernelRfl
namespace Go.Proofs.Ytjilnmjjehkidaa
open Go Go.RowKit
theorem isFn3 : Z.IsFn Try.prog 3 := Z.isFn_of Try.func3 (by rfl) (by decide +kernel)
theorem isFn4 : Z.IsFn Try.prog 4 := Z.isFn_of Try.func4 (by rfl) (by decide +kernel)
theorem isFn5 : Z.IsFn Try.prog 5 := Z.isFn_of Try.func5 (by rfl) (by decide +kernel)
theorem isFn6 : Z.IsFn Try.prog 6 := Z.isFn_of Try.func6 (by rfl) (by decide +kernel)
theorem isFn7 : Z.IsFn Try.prog 7 := Z.isFn_of Try.func7 (by rfl) (by decide +kernel)
theorem isFn8 : Z.IsFn Try.prog 8 := Z.isFn_of Try.func8 (by rfl) (by decide +kernel)
theorem isFn9 : Z.IsFn Try.prog 9 := Z.isFn_of Try.func9 (by rfl) (by decide +kernel)
theorem isFn10 : Z.IsFn Try.prog 10 := Z.isFn_of Try.func10 (by rfl) (by decide +kernel)
theorem isFn11 : Z.IsFn Try.prog 11 := Z.isFn_of Try.func11 (by rfl) (by decide +kernel)
theorem isFn12 : Z.IsFn Try.prog 12 := Z.isFn_of Try.func12 (by rfl) (by decide +kernel)
theorem isFn13 : Z.IsFn Try.prog 13 := Z.isFn_of Try.func13 (by rfl) (by decide +kernel)
theorem isFn14 : Z.IsFn Try.prog 14 := Z.isFn_of Try.func14 (by rfl) (by decide +kernel)
theorem isFn15 : Z.IsFn Try.prog 15 := Z.isFn_of Try.func15 (by rfl) (by decide +kernel)
theorem isFn16 : Z.IsFn Try.prog 16 := Z.isFn_of Try.func16 (by rfl) (by decide +kernel)
theorem isFn17 : Z.IsFn Try.prog 17 := Z.isFn_of Try.func17 (by rfl) (by decide +kernel)
theorem isFn18 : Z.IsFn Try.prog 18 := Z.isFn_of Try.func18 (by rfl) (by decide +kernel)
theorem isFn19 : Z.IsFn Try.prog 19 := Z.isFn_of Try.func19 (by rfl) (by decide +kernel)
theorem isFn20 : Z.IsFn Try.prog 20 := Z.isFn_of Try.func20 (by rfl) (by decide +kernel)
theorem isFn21 : Z.IsFn Try.prog 21 := Z.isFn_of Try.func21 (by rfl) (by decide +kernel)
theorem isFn22 : Z.IsFn Try.prog 22 := Z.isFn_of Try.func22 (by rfl) (by decide +kernel)
theorem isFn23 : Z.IsFn Try.prog 23 := Z.isFn_of Try.func23 (by rfl) (by decide +kernel)
theorem isFn24 : Z.IsFn Try.prog 24 := Z.isFn_of Try.func24 (by rfl) (by decide +kernel)
theorem isFn25 : Z.IsFn Try.prog 25 := Z.isFn_of Try.func25 (by rfl) (by decide +kernel)
theorem isFn26 : Z.IsFn Try.prog 26 := Z.isFn_of Try.func26 (by rfl) (by decide +kernel)
theorem isFn27 : Z.IsFn Try.prog 27 := Z.isFn_of Try.func27 (by rfl) (by decide +kernel)
theorem isFn28 : Z.IsFn Try.prog 28 := Z.isFn_of Try.func28 (by rfl) (by decide +kernel)
theorem isFn29 : Z.IsFn Try.prog 29 := Z.isFn_of Try.func29 (by rfl) (by decide +kernel)
theorem isFn30 : Z.IsFn Try.prog 30 := Z.isFn_of Try.func30 (by rfl) (by decide +kernel)
theorem isFn31 : Z.IsFn Try.prog 31 := Z.isFn_of Try.func31 (by rfl) (by decide +kernel)
theorem isFn37 : Z.IsFn Try.prog 37 := Z.isFn_of Try.func37 (by rfl) (by decide +kernel)
theorem isFn41 : Z.IsFn Try.prog 41 := Z.isFn_of Try.func41 (by rfl) (by decide +kernel)
theorem isFn47 : Z.IsFn Try.prog 47 := Z.isFn_of Try.func47 (by rfl) (by decide +kernel)

theorem pl56 : Z.Pl Try.prog 56 [(0, 1), (1, 1), (2, 1)] := ⟨_, Try.underlying56, fun w => by simp [Try.sizeOf2, Try.sizeOf3]⟩
theorem pl54 : Z.Pl Try.prog 54 [(0, 1), (1, 1), (2, 1), (3, 1)] := ⟨_, Try.underlying54, fun w => by simp [Try.sizeOf2, Try.sizeOf3, Try.sizeOf52]⟩

set_option maxHeartbeats 4000000 in
set_option maxRecDepth 100000 in
theorem right_spec (w0 : World) (a b c : Int) : Z.FnD Try.prog w0 8 [.int .i64 a, .int .i64 b, .int .i64 c] [] (.bool (rightB a b c)) [] := by
  refine Z.Fn.fnD ?_
  refine Z.fn_enter (n := 29) Try.func8 rfl (by rfl) (by rfl) (fun Fr => ?_)
  refine Z.j_app (by repeat (first | exact Z.App.nil | apply Z.App.cons)) ?_
  refine Z.j_seq ?_
  refine Z.j_region ?_
  refine Z.s_val (Z.pv_assign rfl) ?_
  refine Z.j_nil ?_
  refine Z.j_then ?_
  refine Z.j_seq ?_
  refine Z.j_region ?_
  refine Z.s_val (Z.pv_move rfl) ?_
  refine Z.s_val (Z.pv_geq rfl rfl) ?_
  refine Z.s_val (Z.pv_move rfl) ?_
  refine Z.s_split 9 rfl (fun hg9 => ?_) (fun hg9 => ?_)
  · try (with_reducible first | replace hg9 := of_decide_eq_true hg9 | replace hg9 := of_decide_eq_false hg9 | replace hg9 := Z.nd_true hg9 | replace hg9 := Z.nd_false hg9 | replace hg9 := Z.nn_true hg9 | replace hg9 := Z.nn_false hg9 | replace hg9 := Z.nb_true hg9 | replace hg9 := Z.nb_false hg9)
    first
    | (exfalso; first | (cases hg9; done) | omega)
    | skip
      refine Z.s_val (Z.pv_move rfl) ?_
      refine Z.s_val (Z.pv_leq rfl rfl) ?_
      refine Z.s_val (Z.pv_pick rfl rfl) ?_
      refine Z.s_val (Z.pv_move rfl) ?_
      refine Z.s_split 13 rfl (fun hg13 => ?_) (fun hg13 => ?_)
      · try (with_reducible first | replace hg13 := of_decide_eq_true hg13 | replace hg13 := of_decide_eq_false hg13 | replace hg13 := Z.nd_true hg13 | replace hg13 := Z.nd_false hg13 | replace hg13 := Z.nn_true hg13 | replace hg13 := Z.nn_false hg13 | replace hg13 := Z.nb_true hg13 | replace hg13 := Z.nb_false hg13)
        first
        | (exfalso; first | (cases hg13; done) | omega)
        | skip
          refine Z.s_val (Z.pv_move rfl) ?_
          refine Z.s_val (Z.pv_geq rfl rfl) ?_
          refine Z.s_val (Z.pv_pick rfl rfl) ?_
          refine Z.s_val (Z.pv_move rfl) ?_
          refine Z.s_split 17 rfl (fun hg17 => ?_) (fun hg17 => ?_)
          · try (with_reducible first | replace hg17 := of_decide_eq_true hg17 | replace hg17 := of_decide_eq_false hg17 | replace hg17 := Z.nd_true hg17 | replace hg17 := Z.nd_false hg17 | replace hg17 := Z.nn_true hg17 | replace hg17 := Z.nn_false hg17 | replace hg17 := Z.nb_true hg17 | replace hg17 := Z.nb_false hg17)
            first
            | (exfalso; first | (cases hg17; done) | omega)
            | skip
              refine Z.s_val (Z.pv_move rfl) ?_
              refine Z.s_val (Z.pv_leq rfl rfl) ?_
              refine Z.s_val (Z.pv_pick rfl rfl) ?_
              refine Z.s_val (Z.pv_move rfl) ?_
              refine Z.s_split 21 rfl (fun hg21 => ?_) (fun hg21 => ?_)
              · try (with_reducible first | replace hg21 := of_decide_eq_true hg21 | replace hg21 := of_decide_eq_false hg21 | replace hg21 := Z.nd_true hg21 | replace hg21 := Z.nd_false hg21 | replace hg21 := Z.nn_true hg21 | replace hg21 := Z.nn_false hg21 | replace hg21 := Z.nb_true hg21 | replace hg21 := Z.nb_false hg21)
                first
                | (exfalso; first | (cases hg21; done) | omega)
                | skip
                  refine Z.s_val (Z.pv_move rfl) ?_
                  refine Z.s_val (Z.pv_geq rfl rfl) ?_
                  refine Z.s_val (Z.pv_pick rfl rfl) ?_
                  refine Z.s_val (Z.pv_move rfl) ?_
                  refine Z.s_split 25 rfl (fun hg25 => ?_) (fun hg25 => ?_)
                  · try (with_reducible first | replace hg25 := of_decide_eq_true hg25 | replace hg25 := of_decide_eq_false hg25 | replace hg25 := Z.nd_true hg25 | replace hg25 := Z.nd_false hg25 | replace hg25 := Z.nn_true hg25 | replace hg25 := Z.nn_false hg25 | replace hg25 := Z.nb_true hg25 | replace hg25 := Z.nb_false hg25)
                    first
                    | (exfalso; first | (cases hg25; done) | omega)
                    | skip
                      refine Z.s_val (Z.pv_move rfl) ?_
                      refine Z.s_val (Z.pv_leq rfl rfl) ?_
                      refine Z.s_val (Z.pv_pick rfl rfl) ?_
                      refine Z.s_val (Z.pv_assign rfl) ?_
                      refine Z.j_nil ?_
                      refine Z.j_then ?_
                      refine Z.j_ret ?_
                      refine Z.j_done_ret (Z.rv1 (Z.rv_tmp (t := 6) rfl)) ?_
                      exact Z.post_of ⟨by simp [rightB, spanB, *] <;> omega, rfl⟩ (by repeat (first | with_reducible exact Z.Takes.nil | (apply Z.Takes.cons; (repeat (first | with_reducible exact Z.Take.here | apply Z.Take.there))))) (by repeat (first | with_reducible exact Z.Drop.nil | apply Z.Drop.cons))
                  · try (with_reducible first | replace hg25 := of_decide_eq_true hg25 | replace hg25 := of_decide_eq_false hg25 | replace hg25 := Z.nd_true hg25 | replace hg25 := Z.nd_false hg25 | replace hg25 := Z.nn_true hg25 | replace hg25 := Z.nn_false hg25 | replace hg25 := Z.nb_true hg25 | replace hg25 := Z.nb_false hg25)
                    first
                    | (exfalso; first | (cases hg25; done) | omega)
                    | skip
                      refine Z.s_skip ?_
                      refine Z.s_skip ?_
                      refine Z.s_val (Z.pv_pick rfl rfl) ?_
                      refine Z.s_val (Z.pv_assign rfl) ?_
                      refine Z.j_nil ?_
                      refine Z.j_then ?_
                      refine Z.j_ret ?_
                      refine Z.j_done_ret (Z.rv1 (Z.rv_tmp (t := 6) rfl)) ?_
                      exact Z.post_of ⟨by simp [rightB, spanB, *] <;> omega, rfl⟩ (by repeat (first | with_reducible exact Z.Takes.nil | (apply Z.Takes.cons; (repeat (first | with_reducible exact Z.Take.here | apply Z.Take.there))))) (by repeat (first | with_reducible exact Z.Drop.nil | apply Z.Drop.cons))
              · try (with_reducible first | replace hg21 := of_decide_eq_true hg21 | replace hg21 := of_decide_eq_false hg21 | replace hg21 := Z.nd_true hg21 | replace hg21 := Z.nd_false hg21 | replace hg21 := Z.nn_true hg21 | replace hg21 := Z.nn_false hg21 | replace hg21 := Z.nb_true hg21 | replace hg21 := Z.nb_false hg21)
                first
                | (exfalso; first | (cases hg21; done) | omega)
                | skip
                  refine Z.s_skip ?_
                  refine Z.s_skip ?_
                  refine Z.s_val (Z.pv_pick rfl rfl) ?_
                  refine Z.s_val (Z.pv_move rfl) ?_
                  refine Z.s_split 25 rfl (fun hg25 => ?_) (fun hg25 => ?_)
                  · try (with_reducible first | replace hg25 := of_decide_eq_true hg25 | replace hg25 := of_decide_eq_false hg25 | replace hg25 := Z.nd_true hg25 | replace hg25 := Z.nd_false hg25 | replace hg25 := Z.nn_true hg25 | replace hg25 := Z.nn_false hg25 | replace hg25 := Z.nb_true hg25 | replace hg25 := Z.nb_false hg25)
                    first
                    | (exfalso; first | (cases hg25; done) | omega)
                    | skip
                      refine Z.s_val (Z.pv_move rfl) ?_
                      refine Z.s_val (Z.pv_leq rfl rfl) ?_
                      refine Z.s_val (Z.pv_pick rfl rfl) ?_
                      refine Z.s_val (Z.pv_assign rfl) ?_
                      refine Z.j_nil ?_
                      refine Z.j_then ?_
                      refine Z.j_ret ?_
                      refine Z.j_done_ret (Z.rv1 (Z.rv_tmp (t := 6) rfl)) ?_
                      exact Z.post_of ⟨by simp [rightB, spanB, *] <;> omega, rfl⟩ (by repeat (first | with_reducible exact Z.Takes.nil | (apply Z.Takes.cons; (repeat (first | with_reducible exact Z.Take.here | apply Z.Take.there))))) (by repeat (first | with_reducible exact Z.Drop.nil | apply Z.Drop.cons))
                  · try (with_reducible first | replace hg25 := of_decide_eq_true hg25 | replace hg25 := of_decide_eq_false hg25 | replace hg25 := Z.nd_true hg25 | replace hg25 := Z.nd_false hg25 | replace hg25 := Z.nn_true hg25 | replace hg25 := Z.nn_false hg25 | replace hg25 := Z.nb_true hg25 | replace hg25 := Z.nb_false hg25)
                    first
                    | (exfalso; first | (cases hg25; done) | omega)
                    | skip
                      refine Z.s_skip ?_
                      refine Z.s_skip ?_
                      refine Z.s_val (Z.pv_pick rfl rfl) ?_
                      refine Z.s_val (Z.pv_assign rfl) ?_
                      refine Z.j_nil ?_
                      refine Z.j_then ?_
                      refine Z.j_ret ?_
                      refine Z.j_done_ret (Z.rv1 (Z.rv_tmp (t := 6) rfl)) ?_
                      exact Z.post_of ⟨by simp [rightB, spanB, *] <;> omega, rfl⟩ (by repeat (first | with_reducible exact Z.Takes.nil | (apply Z.Takes.cons; (repeat (first | with_reducible exact Z.Take.here | apply Z.Take.there))))) (by repeat (first | with_reducible exact Z.Drop.nil | apply Z.Drop.cons))
          · try (with_reducible first | replace hg17 := of_decide_eq_true hg17 | replace hg17 := of_decide_eq_false hg17 | replace hg17 := Z.nd_true hg17 | replace hg17 := Z.nd_false hg17 | replace hg17 := Z.nn_true hg17 | replace hg17 := Z.nn_false hg17 | replace hg17 := Z.nb_true hg17 | replace hg17 := Z.nb_false hg17)
            first
            | (exfalso; first | (cases hg17; done) | omega)
            | skip
              refine Z.s_skip ?_
              refine Z.s_skip ?_
              refine Z.s_val (Z.pv_pick rfl rfl) ?_
              refine Z.s_val (Z.pv_move rfl) ?_
              refine Z.s_split 21 rfl (fun hg21 => ?_) (fun hg21 => ?_)
              · try (with_reducible first | replace hg21 := of_decide_eq_true hg21 | replace hg21 := of_decide_eq_false hg21 | replace hg21 := Z.nd_true hg21 | replace hg21 := Z.nd_false hg21 | replace hg21 := Z.nn_true hg21 | replace hg21 := Z.nn_false hg21 | replace hg21 := Z.nb_true hg21 | replace hg21 := Z.nb_false hg21)
                first
                | (exfalso; first | (cases hg21; done) | omega)
                | skip
                  refine Z.s_val (Z.pv_move rfl) ?_
                  refine Z.s_val (Z.pv_geq rfl rfl) ?_
                  refine Z.s_val (Z.pv_pick rfl rfl) ?_
                  refine Z.s_val (Z.pv_move rfl) ?_
                  refine Z.s_split 25 rfl (fun hg25 => ?_) (fun hg25 => ?_)
                  · try (with_reducible first | replace hg25 := of_decide_eq_true hg25 | replace hg25 := of_decide_eq_false hg25 | replace hg25 := Z.nd_true hg25 | replace hg25 := Z.nd_false hg25 | replace hg25 := Z.nn_true hg25 | replace hg25 := Z.nn_false hg25 | replace hg25 := Z.nb_true hg25 | replace hg25 := Z.nb_false hg25)
                    first
                    | (exfalso; first | (cases hg25; done) | omega)
                    | skip
                      refine Z.s_val (Z.pv_move rfl) ?_
                      refine Z.s_val (Z.pv_leq rfl rfl) ?_
                      refine Z.s_val (Z.pv_pick rfl rfl) ?_
                      refine Z.s_val (Z.pv_assign rfl) ?_
                      refine Z.j_nil ?_
                      refine Z.j_then ?_
                      refine Z.j_ret ?_
                      refine Z.j_done_ret (Z.rv1 (Z.rv_tmp (t := 6) rfl)) ?_
                      exact Z.post_of ⟨by simp [rightB, spanB, *] <;> omega, rfl⟩ (by repeat (first | with_reducible exact Z.Takes.nil | (apply Z.Takes.cons; (repeat (first | with_reducible exact Z.Take.here | apply Z.Take.there))))) (by repeat (first | with_reducible exact Z.Drop.nil | apply Z.Drop.cons))
                  · try (with_reducible first | replace hg25 := of_decide_eq_true hg25 | replace hg25 := of_decide_eq_false hg25 | replace hg25 := Z.nd_true hg25 | replace hg25 := Z.nd_false hg25 | replace hg25 := Z.nn_true hg25 | replace hg25 := Z.nn_false hg25 | replace hg25 := Z.nb_true hg25 | replace hg25 := Z.nb_false hg25)
                    first
                    | (exfalso; first | (cases hg25; done) | omega)
                    | skip
                      refine Z.s_skip ?_
                      refine Z.s_skip ?_
                      refine Z.s_val (Z.pv_pick rfl rfl) ?_
                      refine Z.s_val (Z.pv_assign rfl) ?_
                      refine Z.j_nil ?_
                      refine Z.j_then ?_
                      refine Z.j_ret ?_
                      refine Z.j_done_ret (Z.rv1 (Z.rv_tmp (t := 6) rfl)) ?_
                      exact Z.post_of ⟨by simp [rightB, spanB, *] <;> omega, rfl⟩ (by repeat (first | with_reducible exact Z.Takes.nil | (apply Z.Takes.cons; (repeat (first | with_reducible exact Z.Take.here | apply Z.Take.there))))) (by repeat (first | with_reducible exact Z.Drop.nil | apply Z.Drop.cons))
              · try (with_reducible first | replace hg21 := of_decide_eq_true hg21 | replace hg21 := of_decide_eq_false hg21 | replace hg21 := Z.nd_true hg21 | replace hg21 := Z.nd_false hg21 | replace hg21 := Z.nn_true hg21 | replace hg21 := Z.nn_false hg21 | replace hg21 := Z.nb_true hg21 | replace hg21 := Z.nb_false hg21)
                first
                | (exfalso; first | (cases hg21; done) | omega)
                | skip
                  refine Z.s_skip ?_
                  refine Z.s_skip ?_
                  refine Z.s_val (Z.pv_pick rfl rfl) ?_
                  refine Z.s_val (Z.pv_move rfl) ?_
                  refine Z.s_split 25 rfl (fun hg25 => ?_) (fun hg25 => ?_)
                  · try (with_reducible first | replace hg25 := of_decide_eq_true hg25 | replace hg25 := of_decide_eq_false hg25 | replace hg25 := Z.nd_true hg25 | replace hg25 := Z.nd_false hg25 | replace hg25 := Z.nn_true hg25 | replace hg25 := Z.nn_false hg25 | replace hg25 := Z.nb_true hg25 | replace hg25 := Z.nb_false hg25)
                    first
                    | (exfalso; first | (cases hg25; done) | omega)
                    | skip
                      refine Z.s_val (Z.pv_move rfl) ?_
                      refine Z.s_val (Z.pv_leq rfl rfl) ?_
                      refine Z.s_val (Z.pv_pick rfl rfl) ?_
                      refine Z.s_val (Z.pv_assign rfl) ?_
                      refine Z.j_nil ?_
                      refine Z.j_then ?_
                      refine Z.j_ret ?_
                      refine Z.j_done_ret (Z.rv1 (Z.rv_tmp (t := 6) rfl)) ?_
                      exact Z.post_of ⟨by simp [rightB, spanB, *] <;> omega, rfl⟩ (by repeat (first | with_reducible exact Z.Takes.nil | (apply Z.Takes.cons; (repeat (first | with_reducible exact Z.Take.here | apply Z.Take.there))))) (by repeat (first | with_reducible exact Z.Drop.nil | apply Z.Drop.cons))
                  · try (with_reducible first | replace hg25 := of_decide_eq_true hg25 | replace hg25 := of_decide_eq_false hg25 | replace hg25 := Z.nd_true hg25 | replace hg25 := Z.nd_false hg25 | replace hg25 := Z.nn_true hg25 | replace hg25 := Z.nn_false hg25 | replace hg25 := Z.nb_true hg25 | replace hg25 := Z.nb_false hg25)
                    first
                    | (exfalso; first | (cases hg25; done) | omega)
                    | skip
                      refine Z.s_skip ?_
                      refine Z.s_skip ?_
                      refine Z.s_val (Z.pv_pick rfl rfl) ?_
                      refine Z.s_val (Z.pv_assign rfl) ?_
                      refine Z.j_nil ?_
                      refine Z.j_then ?_
                      refine Z.j_ret ?_
                      refine Z.j_done_ret (Z.rv1 (Z.rv_tmp (t := 6) rfl)) ?_
                      exact Z.post_of ⟨by simp [rightB, spanB, *] <;> omega, rfl⟩ (by repeat (first | with_reducible exact Z.Takes.nil | (apply Z.Takes.cons; (repeat (first | with_reducible exact Z.Take.here | apply Z.Take.there))))) (by repeat (first | with_reducible exact Z.Drop.nil | apply Z.Drop.cons))
      · try (with_reducible first | replace hg13 := of_decide_eq_true hg13 | replace hg13 := of_decide_eq_false hg13 | replace hg13 := Z.nd_true hg13 | replace hg13 := Z.nd_false hg13 | replace hg13 := Z.nn_true hg13 | replace hg13 := Z.nn_false hg13 | replace hg13 := Z.nb_true hg13 | replace hg13 := Z.nb_false hg13)
        first
        | (exfalso; first | (cases hg13; done) | omega)
        | skip
          refine Z.s_skip ?_
          refine Z.s_skip ?_
          refine Z.s_val (Z.pv_pick rfl rfl) ?_
          refine Z.s_val (Z.pv_move rfl) ?_
          refine Z.s_split 17 rfl (fun hg17 => ?_) (fun hg17 => ?_)
          · try (with_reducible first | replace hg17 := of_decide_eq_true hg17 | replace hg17 := of_decide_eq_false hg17 | replace hg17 := Z.nd_true hg17 | replace hg17 := Z.nd_false hg17 | replace hg17 := Z.nn_true hg17 | replace hg17 := Z.nn_false hg17 | replace hg17 := Z.nb_true hg17 | replace hg17 := Z.nb_false hg17)
            first
            | (exfalso; first | (cases hg17; done) | omega)
            | skip
              refine Z.s_val (Z.pv_move rfl) ?_
              refine Z.s_val (Z.pv_leq rfl rfl) ?_
              refine Z.s_val (Z.pv_pick rfl rfl) ?_
              refine Z.s_val (Z.pv_move rfl) ?_
              refine Z.s_split 21 rfl (fun hg21 => ?_) (fun hg21 => ?_)
              · try (with_reducible first | replace hg21 := of_decide_eq_true hg21 | replace hg21 := of_decide_eq_false hg21 | replace hg21 := Z.nd_true hg21 | replace hg21 := Z.nd_false hg21 | replace hg21 := Z.nn_true hg21 | replace hg21 := Z.nn_false hg21 | replace hg21 := Z.nb_true hg21 | replace hg21 := Z.nb_false hg21)
                first
                | (exfalso; first | (cases hg21; done) | omega)
                | skip
                  refine Z.s_val (Z.pv_move rfl) ?_
                  refine Z.s_val (Z.pv_geq rfl rfl) ?_
                  refine Z.s_val (Z.pv_pick rfl rfl) ?_
                  refine Z.s_val (Z.pv_move rfl) ?_
                  refine Z.s_split 25 rfl (fun hg25 => ?_) (fun hg25 => ?_)
                  · try (with_reducible first | replace hg25 := of_decide_eq_true hg25 | replace hg25 := of_decide_eq_false hg25 | replace hg25 := Z.nd_true hg25 | replace hg25 := Z.nd_false hg25 | replace hg25 := Z.nn_true hg25 | replace hg25 := Z.nn_false hg25 | replace hg25 := Z.nb_true hg25 | replace hg25 := Z.nb_false hg25)
                    first
                    | (exfalso; first | (cases hg25; done) | omega)
                    | skip
                      refine Z.s_val (Z.pv_move rfl) ?_
                      refine Z.s_val (Z.pv_leq rfl rfl) ?_
                      refine Z.s_val (Z.pv_pick rfl rfl) ?_
                      refine Z.s_val (Z.pv_assign rfl) ?_
                      refine Z.j_nil ?_
                      refine Z.j_then ?_
                      refine Z.j_ret ?_
                      refine Z.j_done_ret (Z.rv1 (Z.rv_tmp (t := 6) rfl)) ?_
                      exact Z.post_of ⟨by simp [rightB, spanB, *] <;> omega, rfl⟩ (by repeat (first | with_reducible exact Z.Takes.nil | (apply Z.Takes.cons; (repeat (first | with_reducible exact Z.Take.here | apply Z.Take.there))))) (by repeat (first | with_reducible exact Z.Drop.nil | apply Z.Drop.cons))
                  · try (with_reducible first | replace hg25 := of_decide_eq_true hg25 | replace hg25 := of_decide_eq_false hg25 | replace hg25 := Z.nd_true hg25 | replace hg25 := Z.nd_false hg25 | replace hg25 := Z.nn_true hg25 | replace hg25 := Z.nn_false hg25 | replace hg25 := Z.nb_true hg25 | replace hg25 := Z.nb_false hg25)
                    first
                    | (exfalso; first | (cases hg25; done) | omega)
                    | skip
                      refine Z.s_skip ?_
                      refine Z.s_skip ?_
                      refine Z.s_val (Z.pv_pick rfl rfl) ?_
                      refine Z.s_val (Z.pv_assign rfl) ?_
                      refine Z.j_nil ?_
                      refine Z.j_then ?_
                      refine Z.j_ret ?_
                      refine Z.j_done_ret (Z.rv1 (Z.rv_tmp (t := 6) rfl)) ?_
                      exact Z.post_of ⟨by simp [rightB, spanB, *] <;> omega, rfl⟩ (by repeat (first | with_reducible exact Z.Takes.nil | (apply Z.Takes.cons; (repeat (first | with_reducible exact Z.Take.here | apply Z.Take.there))))) (by repeat (first | with_reducible exact Z.Drop.nil | apply Z.Drop.cons))
              · try (with_reducible first | replace hg21 := of_decide_eq_true hg21 | replace hg21 := of_decide_eq_false hg21 | replace hg21 := Z.nd_true hg21 | replace hg21 := Z.nd_false hg21 | replace hg21 := Z.nn_true hg21 | replace hg21 := Z.nn_false hg21 | replace hg21 := Z.nb_true hg21 | replace hg21 := Z.nb_false hg21)
                first
                | (exfalso; first | (cases hg21; done) | omega)
                | skip
                  refine Z.s_skip ?_
                  refine Z.s_skip ?_
                  refine Z.s_val (Z.pv_pick rfl rfl) ?_
                  refine Z.s_val (Z.pv_move rfl) ?_
                  refine Z.s_split 25 rfl (fun hg25 => ?_) (fun hg25 => ?_)
                  · try (with_reducible first | replace hg25 := of_decide_eq_true hg25 | replace hg25 := of_decide_eq_false hg25 | replace hg25 := Z.nd_true hg25 | replace hg25 := Z.nd_false hg25 | replace hg25 := Z.nn_true hg25 | replace hg25 := Z.nn_false hg25 | replace hg25 := Z.nb_true hg25 | replace hg25 := Z.nb_false hg25)
                    first
                    | (exfalso; first | (cases hg25; done) | omega)
                    | skip
                      refine Z.s_val (Z.pv_move rfl) ?_
                      refine Z.s_val (Z.pv_leq rfl rfl) ?_
                      refine Z.s_val (Z.pv_pick rfl rfl) ?_
                      refine Z.s_val (Z.pv_assign rfl) ?_
                      refine Z.j_nil ?_
                      refine Z.j_then ?_
                      refine Z.j_ret ?_
                      refine Z.j_done_ret (Z.rv1 (Z.rv_tmp (t := 6) rfl)) ?_
                      exact Z.post_of ⟨by simp [rightB, spanB, *] <;> omega, rfl⟩ (by repeat (first | with_reducible exact Z.Takes.nil | (apply Z.Takes.cons; (repeat (first | with_reducible exact Z.Take.here | apply Z.Take.there))))) (by repeat (first | with_reducible exact Z.Drop.nil | apply Z.Drop.cons))
                  · try (with_reducible first | replace hg25 := of_decide_eq_true hg25 | replace hg25 := of_decide_eq_false hg25 | replace hg25 := Z.nd_true hg25 | replace hg25 := Z.nd_false hg25 | replace hg25 := Z.nn_true hg25 | replace hg25 := Z.nn_false hg25 | replace hg25 := Z.nb_true hg25 | replace hg25 := Z.nb_false hg25)
                    first
                    | (exfalso; first | (cases hg25; done) | omega)
                    | skip
                      refine Z.s_skip ?_
                      refine Z.s_skip ?_
                      refine Z.s_val (Z.pv_pick rfl rfl) ?_
                      refine Z.s_val (Z.pv_assign rfl) ?_
                      refine Z.j_nil ?_
                      refine Z.j_then ?_
                      refine Z.j_ret ?_
                      refine Z.j_done_ret (Z.rv1 (Z.rv_tmp (t := 6) rfl)) ?_
                      exact Z.post_of ⟨by simp [rightB, spanB, *] <;> omega, rfl⟩ (by repeat (first | with_reducible exact Z.Takes.nil | (apply Z.Takes.cons; (repeat (first | with_reducible exact Z.Take.here | apply Z.Take.there))))) (by repeat (first | with_reducible exact Z.Drop.nil | apply Z.Drop.cons))
          · try (with_reducible first | replace hg17 := of_decide_eq_true hg17 | replace hg17 := of_decide_eq_false hg17 | replace hg17 := Z.nd_true hg17 | replace hg17 := Z.nd_false hg17 | replace hg17 := Z.nn_true hg17 | replace hg17 := Z.nn_false hg17 | replace hg17 := Z.nb_true hg17 | replace hg17 := Z.nb_false hg17)
            first
            | (exfalso; first | (cases hg17; done) | omega)
            | skip
              refine Z.s_skip ?_
              refine Z.s_skip ?_
              refine Z.s_val (Z.pv_pick rfl rfl) ?_
              refine Z.s_val (Z.pv_move rfl) ?_
              refine Z.s_split 21 rfl (fun hg21 => ?_) (fun hg21 => ?_)
              · try (with_reducible first | replace hg21 := of_decide_eq_true hg21 | replace hg21 := of_decide_eq_false hg21 | replace hg21 := Z.nd_true hg21 | replace hg21 := Z.nd_false hg21 | replace hg21 := Z.nn_true hg21 | replace hg21 := Z.nn_false hg21 | replace hg21 := Z.nb_true hg21 | replace hg21 := Z.nb_false hg21)
                first
                | (exfalso; first | (cases hg21; done) | omega)
                | skip
                  refine Z.s_val (Z.pv_move rfl) ?_
                  refine Z.s_val (Z.pv_geq rfl rfl) ?_
                  refine Z.s_val (Z.pv_pick rfl rfl) ?_
                  refine Z.s_val (Z.pv_move rfl) ?_
                  refine Z.s_split 25 rfl (fun hg25 => ?_) (fun hg25 => ?_)
                  · try (with_reducible first | replace hg25 := of_decide_eq_true hg25 | replace hg25 := of_decide_eq_false hg25 | replace hg25 := Z.nd_true hg25 | replace hg25 := Z.nd_false hg25 | replace hg25 := Z.nn_true hg25 | replace hg25 := Z.nn_false hg25 | replace hg25 := Z.nb_true hg25 | replace hg25 := Z.nb_false hg25)
                    first
                    | (exfalso; first | (cases hg25; done) | omega)
                    | skip
                      refine Z.s_val (Z.pv_move rfl) ?_
                      refine Z.s_val (Z.pv_leq rfl rfl) ?_
                      refine Z.s_val (Z.pv_pick rfl rfl) ?_
                      refine Z.s_val (Z.pv_assign rfl) ?_
                      refine Z.j_nil ?_
                      refine Z.j_then ?_
                      refine Z.j_ret ?_
                      refine Z.j_done_ret (Z.rv1 (Z.rv_tmp (t := 6) rfl)) ?_
                      exact Z.post_of ⟨by simp [rightB, spanB, *] <;> omega, rfl⟩ (by repeat (first | with_reducible exact Z.Takes.nil | (apply Z.Takes.cons; (repeat (first | with_reducible exact Z.Take.here | apply Z.Take.there))))) (by repeat (first | with_reducible exact Z.Drop.nil | apply Z.Drop.cons))
                  · try (with_reducible first | replace hg25 := of_decide_eq_true hg25 | replace hg25 := of_decide_eq_false hg25 | replace hg25 := Z.nd_true hg25 | replace hg25 := Z.nd_false hg25 | replace hg25 := Z.nn_true hg25 | replace hg25 := Z.nn_false hg25 | replace hg25 := Z.nb_true hg25 | replace hg25 := Z.nb_false hg25)
                    first
                    | (exfalso; first | (cases hg25; done) | omega)
                    | skip
                      refine Z.s_skip ?_
                      refine Z.s_skip ?_
                      refine Z.s_val (Z.pv_pick rfl rfl) ?_
                      refine Z.s_val (Z.pv_assign rfl) ?_
                      refine Z.j_nil ?_
                      refine Z.j_then ?_
                      refine Z.j_ret ?_
                      refine Z.j_done_ret (Z.rv1 (Z.rv_tmp (t := 6) rfl)) ?_
                      exact Z.post_of ⟨by simp [rightB, spanB, *] <;> omega, rfl⟩ (by repeat (first | with_reducible exact Z.Takes.nil | (apply Z.Takes.cons; (repeat (first | with_reducible exact Z.Take.here | apply Z.Take.there))))) (by repeat (first | with_reducible exact Z.Drop.nil | apply Z.Drop.cons))
              · try (with_reducible first | replace hg21 := of_decide_eq_true hg21 | replace hg21 := of_decide_eq_false hg21 | replace hg21 := Z.nd_true hg21 | replace hg21 := Z.nd_false hg21 | replace hg21 := Z.nn_true hg21 | replace hg21 := Z.nn_false hg21 | replace hg21 := Z.nb_true hg21 | replace hg21 := Z.nb_false hg21)
                first
                | (exfalso; first | (cases hg21; done) | omega)
                | skip
                  refine Z.s_skip ?_
                  refine Z.s_skip ?_
                  refine Z.s_val (Z.pv_pick rfl rfl) ?_
                  refine Z.s_val (Z.pv_move rfl) ?_
                  refine Z.s_split 25 rfl (fun hg25 => ?_) (fun hg25 => ?_)
                  · try (with_reducible first | replace hg25 := of_decide_eq_true hg25 | replace hg25 := of_decide_eq_false hg25 | replace hg25 := Z.nd_true hg25 | replace hg25 := Z.nd_false hg25 | replace hg25 := Z.nn_true hg25 | replace hg25 := Z.nn_false hg25 | replace hg25 := Z.nb_true hg25 | replace hg25 := Z.nb_false hg25)
                    first
                    | (exfalso; first | (cases hg25; done) | omega)
                    | skip
                      refine Z.s_val (Z.pv_move rfl) ?_
                      refine Z.s_val (Z.pv_leq rfl rfl) ?_
                      refine Z.s_val (Z.pv_pick rfl rfl) ?_
                      refine Z.s_val (Z.pv_assign rfl) ?_
                      refine Z.j_nil ?_
                      refine Z.j_then ?_
                      refine Z.j_ret ?_
                      refine Z.j_done_ret (Z.rv1 (Z.rv_tmp (t := 6) rfl)) ?_
                      exact Z.post_of ⟨by simp [rightB, spanB, *] <;> omega, rfl⟩ (by repeat (first | with_reducible exact Z.Takes.nil | (apply Z.Takes.cons; (repeat (first | with_reducible exact Z.Take.here | apply Z.Take.there))))) (by repeat (first | with_reducible exact Z.Drop.nil | apply Z.Drop.cons))
                  · try (with_reducible first | replace hg25 := of_decide_eq_true hg25 | replace hg25 := of_decide_eq_false hg25 | replace hg25 := Z.nd_true hg25 | replace hg25 := Z.nd_false hg25 | replace hg25 := Z.nn_true hg25 | replace hg25 := Z.nn_false hg25 | replace hg25 := Z.nb_true hg25 | replace hg25 := Z.nb_false hg25)
                    first
                    | (exfalso; first | (cases hg25; done) | omega)
                    | skip
                      refine Z.s_skip ?_
                      refine Z.s_skip ?_
                      refine Z.s_val (Z.pv_pick rfl rfl) ?_
                      refine Z.s_val (Z.pv_assign rfl) ?_
                      refine Z.j_nil ?_
                      refine Z.j_then ?_
                      refine Z.j_ret ?_
                      refine Z.j_done_ret (Z.rv1 (Z.rv_tmp (t := 6) rfl)) ?_
                      exact Z.post_of ⟨by simp [rightB, spanB, *] <;> omega, rfl⟩ (by repeat (first | with_reducible exact Z.Takes.nil | (apply Z.Takes.cons; (repeat (first | with_reducible exact Z.Take.here | apply Z.Take.there))))) (by repeat (first | with_reducible exact Z.Drop.nil | apply Z.Drop.cons))
  · try (with_reducible first | replace hg9 := of_decide_eq_true hg9 | replace hg9 := of_decide_eq_false hg9 | replace hg9 := Z.nd_true hg9 | replace hg9 := Z.nd_false hg9 | replace hg9 := Z.nn_true hg9 | replace hg9 := Z.nn_false hg9 | replace hg9 := Z.nb_true hg9 | replace hg9 := Z.nb_false hg9)
    first
    | (exfalso; first | (cases hg9; done) | omega)
    | skip
      refine Z.s_skip ?_
      refine Z.s_skip ?_
      refine Z.s_val (Z.pv_pick rfl rfl) ?_
      refine Z.s_val (Z.pv_move rfl) ?_
      refine Z.s_split 13 rfl (fun hg13 => ?_) (fun hg13 => ?_)
      · try (with_reducible first | replace hg13 := of_decide_eq_true hg13 | replace hg13 := of_decide_eq_false hg13 | replace hg13 := Z.nd_true hg13 | replace hg13 := Z.nd_false hg13 | replace hg13 := Z.nn_true hg13 | replace hg13 := Z.nn_false hg13 | replace hg13 := Z.nb_true hg13 | replace hg13 := Z.nb_false hg13)
        first
        | (exfalso; first | (cases hg13; done) | omega)
        | skip
          refine Z.s_val (Z.pv_move rfl) ?_
          refine Z.s_val (Z.pv_geq rfl rfl) ?_
          refine Z.s_val (Z.pv_pick rfl rfl) ?_
          refine Z.s_val (Z.pv_move rfl) ?_
          refine Z.s_split 17 rfl (fun hg17 => ?_) (fun hg17 => ?_)
          · try (with_reducible first | replace hg17 := of_decide_eq_true hg17 | replace hg17 := of_decide_eq_false hg17 | replace hg17 := Z.nd_true hg17 | replace hg17 := Z.nd_false hg17 | replace hg17 := Z.nn_true hg17 | replace hg17 := Z.nn_false hg17 | replace hg17 := Z.nb_true hg17 | replace hg17 := Z.nb_false hg17)
            first
            | (exfalso; first | (cases hg17; done) | omega)
            | skip
              refine Z.s_val (Z.pv_move rfl) ?_
              refine Z.s_val (Z.pv_leq rfl rfl) ?_
              refine Z.s_val (Z.pv_pick rfl rfl) ?_
              refine Z.s_val (Z.pv_move rfl) ?_
              refine Z.s_split 21 rfl (fun hg21 => ?_) (fun hg21 => ?_)
              · try (with_reducible first | replace hg21 := of_decide_eq_true hg21 | replace hg21 := of_decide_eq_false hg21 | replace hg21 := Z.nd_true hg21 | replace hg21 := Z.nd_false hg21 | replace hg21 := Z.nn_true hg21 | replace hg21 := Z.nn_false hg21 | replace hg21 := Z.nb_true hg21 | replace hg21 := Z.nb_false hg21)
                first
                | (exfalso; first | (cases hg21; done) | omega)
                | skip
                  refine Z.s_val (Z.pv_move rfl) ?_
                  refine Z.s_val (Z.pv_geq rfl rfl) ?_
                  refine Z.s_val (Z.pv_pick rfl rfl) ?_
                  refine Z.s_val (Z.pv_move rfl) ?_
                  refine Z.s_split 25 rfl (fun hg25 => ?_) (fun hg25 => ?_)
                  · try (with_reducible first | replace hg25 := of_decide_eq_true hg25 | replace hg25 := of_decide_eq_false hg25 | replace hg25 := Z.nd_true hg25 | replace hg25 := Z.nd_false hg25 | replace hg25 := Z.nn_true hg25 | replace hg25 := Z.nn_false hg25 | replace hg25 := Z.nb_true hg25 | replace hg25 := Z.nb_false hg25)
                    first
                    | (exfalso; first | (cases hg25; done) | omega)
                    | skip
                      refine Z.s_val (Z.pv_move rfl) ?_
                      refine Z.s_val (Z.pv_leq rfl rfl) ?_
                      refine Z.s_val (Z.pv_pick rfl rfl) ?_
                      refine Z.s_val (Z.pv_assign rfl) ?_
                      refine Z.j_nil ?_
                      refine Z.j_then ?_
                      refine Z.j_ret ?_
                      refine Z.j_done_ret (Z.rv1 (Z.rv_tmp (t := 6) rfl)) ?_
                      exact Z.post_of ⟨by simp [rightB, spanB, *] <;> omega, rfl⟩ (by repeat (first | with_reducible exact Z.Takes.nil | (apply Z.Takes.cons; (repeat (first | with_reducible exact Z.Take.here | apply Z.Take.there))))) (by repeat (first | with_reducible exact Z.Drop.nil | apply Z.Drop.cons))
                  · try (with_reducible first | replace hg25 := of_decide_eq_true hg25 | replace hg25 := of_decide_eq_false hg25 | replace hg25 := Z.nd_true hg25 | replace hg25 := Z.nd_false hg25 | replace hg25 := Z.nn_true hg25 | replace hg25 := Z.nn_false hg25 | replace hg25 := Z.nb_true hg25 | replace hg25 := Z.nb_false hg25)
                    first
                    | (exfalso; first | (cases hg25; done) | omega)
                    | skip
                      refine Z.s_skip ?_
                      refine Z.s_skip ?_
                      refine Z.s_val (Z.pv_pick rfl rfl) ?_
                      refine Z.s_val (Z.pv_assign rfl) ?_
                      refine Z.j_nil ?_
                      refine Z.j_then ?_
                      refine Z.j_ret ?_
                      refine Z.j_done_ret (Z.rv1 (Z.rv_tmp (t := 6) rfl)) ?_
                      exact Z.post_of ⟨by simp [rightB, spanB, *] <;> omega, rfl⟩ (by repeat (first | with_reducible exact Z.Takes.nil | (apply Z.Takes.cons; (repeat (first | with_reducible exact Z.Take.here | apply Z.Take.there))))) (by repeat (first | with_reducible exact Z.Drop.nil | apply Z.Drop.cons))
              · try (with_reducible first | replace hg21 := of_decide_eq_true hg21 | replace hg21 := of_decide_eq_false hg21 | replace hg21 := Z.nd_true hg21 | replace hg21 := Z.nd_false hg21 | replace hg21 := Z.nn_true hg21 | replace hg21 := Z.nn_false hg21 | replace hg21 := Z.nb_true hg21 | replace hg21 := Z.nb_false hg21)
                first
                | (exfalso; first | (cases hg21; done) | omega)
                | skip
                  refine Z.s_skip ?_
                  refine Z.s_skip ?_
                  refine Z.s_val (Z.pv_pick rfl rfl) ?_
                  refine Z.s_val (Z.pv_move rfl) ?_
                  refine Z.s_split 25 rfl (fun hg25 => ?_) (fun hg25 => ?_)
                  · try (with_reducible first | replace hg25 := of_decide_eq_true hg25 | replace hg25 := of_decide_eq_false hg25 | replace hg25 := Z.nd_true hg25 | replace hg25 := Z.nd_false hg25 | replace hg25 := Z.nn_true hg25 | replace hg25 := Z.nn_false hg25 | replace hg25 := Z.nb_true hg25 | replace hg25 := Z.nb_false hg25)
                    first
                    | (exfalso; first | (cases hg25; done) | omega)
                    | skip
                      refine Z.s_val (Z.pv_move rfl) ?_
                      refine Z.s_val (Z.pv_leq rfl rfl) ?_
                      refine Z.s_val (Z.pv_pick rfl rfl) ?_
                      refine Z.s_val (Z.pv_assign rfl) ?_
                      refine Z.j_nil ?_
                      refine Z.j_then ?_
                      refine Z.j_ret ?_
                      refine Z.j_done_ret (Z.rv1 (Z.rv_tmp (t := 6) rfl)) ?_
                      exact Z.post_of ⟨by simp [rightB, spanB, *] <;> omega, rfl⟩ (by repeat (first | with_reducible exact Z.Takes.nil | (apply Z.Takes.cons; (repeat (first | with_reducible exact Z.Take.here | apply Z.Take.there))))) (by repeat (first | with_reducible exact Z.Drop.nil | apply Z.Drop.cons))
                  · try (with_reducible first | replace hg25 := of_decide_eq_true hg25 | replace hg25 := of_decide_eq_false hg25 | replace hg25 := Z.nd_true hg25 | replace hg25 := Z.nd_false hg25 | replace hg25 := Z.nn_true hg25 | replace hg25 := Z.nn_false hg25 | replace hg25 := Z.nb_true hg25 | replace hg25 := Z.nb_false hg25)
                    first
                    | (exfalso; first | (cases hg25; done) | omega)
                    | skip
                      refine Z.s_skip ?_
                      refine Z.s_skip ?_
                      refine Z.s_val (Z.pv_pick rfl rfl) ?_
                      refine Z.s_val (Z.pv_assign rfl) ?_
                      refine Z.j_nil ?_
                      refine Z.j_then ?_
                      refine Z.j_ret ?_
                      refine Z.j_done_ret (Z.rv1 (Z.rv_tmp (t := 6) rfl)) ?_
                      exact Z.post_of ⟨by simp [rightB, spanB, *] <;> omega, rfl⟩ (by repeat (first | with_reducible exact Z.Takes.nil | (apply Z.Takes.cons; (repeat (first | with_reducible exact Z.Take.here | apply Z.Take.there))))) (by repeat (first | with_reducible exact Z.Drop.nil | apply Z.Drop.cons))
          · try (with_reducible first | replace hg17 := of_decide_eq_true hg17 | replace hg17 := of_decide_eq_false hg17 | replace hg17 := Z.nd_true hg17 | replace hg17 := Z.nd_false hg17 | replace hg17 := Z.nn_true hg17 | replace hg17 := Z.nn_false hg17 | replace hg17 := Z.nb_true hg17 | replace hg17 := Z.nb_false hg17)
            first
            | (exfalso; first | (cases hg17; done) | omega)
            | skip
              refine Z.s_skip ?_
              refine Z.s_skip ?_
              refine Z.s_val (Z.pv_pick rfl rfl) ?_
              refine Z.s_val (Z.pv_move rfl) ?_
              refine Z.s_split 21 rfl (fun hg21 => ?_) (fun hg21 => ?_)
              · try (with_reducible first | replace hg21 := of_decide_eq_true hg21 | replace hg21 := of_decide_eq_false hg21 | replace hg21 := Z.nd_true hg21 | replace hg21 := Z.nd_false hg21 | replace hg21 := Z.nn_true hg21 | replace hg21 := Z.nn_false hg21 | replace hg21 := Z.nb_true hg21 | replace hg21 := Z.nb_false hg21)
                first
                | (exfalso; first | (cases hg21; done) | omega)
                | skip
                  refine Z.s_val (Z.pv_move rfl) ?_
                  refine Z.s_val (Z.pv_geq rfl rfl) ?_
                  refine Z.s_val (Z.pv_pick rfl rfl) ?_
                  refine Z.s_val (Z.pv_move rfl) ?_
                  refine Z.s_split 25 rfl (fun hg25 => ?_) (fun hg25 => ?_)
                  · try (with_reducible first | replace hg25 := of_decide_eq_true hg25 | replace hg25 := of_decide_eq_false hg25 | replace hg25 := Z.nd_true hg25 | replace hg25 := Z.nd_false hg25 | replace hg25 := Z.nn_true hg25 | replace hg25 := Z.nn_false hg25 | replace hg25 := Z.nb_true hg25 | replace hg25 := Z.nb_false hg25)
                    first
                    | (exfalso; first | (cases hg25; done) | omega)
                    | skip
                      refine Z.s_val (Z.pv_move rfl) ?_
                      refine Z.s_val (Z.pv_leq rfl rfl) ?_
                      refine Z.s_val (Z.pv_pick rfl rfl) ?_
                      refine Z.s_val (Z.pv_assign rfl) ?_
                      refine Z.j_nil ?_
                      refine Z.j_then ?_
                      refine Z.j_ret ?_
                      refine Z.j_done_ret (Z.rv1 (Z.rv_tmp (t := 6) rfl)) ?_
                      exact Z.post_of ⟨by simp [rightB, spanB, *] <;> omega, rfl⟩ (by repeat (first | with_reducible exact Z.Takes.nil | (apply Z.Takes.cons; (repeat (first | with_reducible exact Z.Take.here | apply Z.Take.there))))) (by repeat (first | with_reducible exact Z.Drop.nil | apply Z.Drop.cons))
                  · try (with_reducible first | replace hg25 := of_decide_eq_true hg25 | replace hg25 := of_decide_eq_false hg25 | replace hg25 := Z.nd_true hg25 | replace hg25 := Z.nd_false hg25 | replace hg25 := Z.nn_true hg25 | replace hg25 := Z.nn_false hg25 | replace hg25 := Z.nb_true hg25 | replace hg25 := Z.nb_false hg25)
                    first
                    | (exfalso; first | (cases hg25; done) | omega)
                    | skip
                      refine Z.s_skip ?_
                      refine Z.s_skip ?_
                      refine Z.s_val (Z.pv_pick rfl rfl) ?_
                      refine Z.s_val (Z.pv_assign rfl) ?_
                      refine Z.j_nil ?_
                      refine Z.j_then ?_
                      refine Z.j_ret ?_
                      refine Z.j_done_ret (Z.rv1 (Z.rv_tmp (t := 6) rfl)) ?_
                      exact Z.post_of ⟨by simp [rightB, spanB, *] <;> omega, rfl⟩ (by repeat (first | with_reducible exact Z.Takes.nil | (apply Z.Takes.cons; (repeat (first | with_reducible exact Z.Take.here | apply Z.Take.there))))) (by repeat (first | with_reducible exact Z.Drop.nil | apply Z.Drop.cons))
              · try (with_reducible first | replace hg21 := of_decide_eq_true hg21 | replace hg21 := of_decide_eq_false hg21 | replace hg21 := Z.nd_true hg21 | replace hg21 := Z.nd_false hg21 | replace hg21 := Z.nn_true hg21 | replace hg21 := Z.nn_false hg21 | replace hg21 := Z.nb_true hg21 | replace hg21 := Z.nb_false hg21)
                first
                | (exfalso; first | (cases hg21; done) | omega)
                | skip
                  refine Z.s_skip ?_
                  refine Z.s_skip ?_
                  refine Z.s_val (Z.pv_pick rfl rfl) ?_
                  refine Z.s_val (Z.pv_move rfl) ?_
                  refine Z.s_split 25 rfl (fun hg25 => ?_) (fun hg25 => ?_)
                  · try (with_reducible first | replace hg25 := of_decide_eq_true hg25 | replace hg25 := of_decide_eq_false hg25 | replace hg25 := Z.nd_true hg25 | replace hg25 := Z.nd_false hg25 | replace hg25 := Z.nn_true hg25 | replace hg25 := Z.nn_false hg25 | replace hg25 := Z.nb_true hg25 | replace hg25 := Z.nb_false hg25)
                    first
                    | (exfalso; first | (cases hg25; done) | omega)
                    | skip
                      refine Z.s_val (Z.pv_move rfl) ?_
                      refine Z.s_val (Z.pv_leq rfl rfl) ?_
                      refine Z.s_val (Z.pv_pick rfl rfl) ?_
                      refine Z.s_val (Z.pv_assign rfl) ?_
                      refine Z.j_nil ?_
                      refine Z.j_then ?_
                      refine Z.j_ret ?_
                      refine Z.j_done_ret (Z.rv1 (Z.rv_tmp (t := 6) rfl)) ?_
                      exact Z.post_of ⟨by simp [rightB, spanB, *] <;> omega, rfl⟩ (by repeat (first | with_reducible exact Z.Takes.nil | (apply Z.Takes.cons; (repeat (first | with_reducible exact Z.Take.here | apply Z.Take.there))))) (by repeat (first | with_reducible exact Z.Drop.nil | apply Z.Drop.cons))
                  · try (with_reducible first | replace hg25 := of_decide_eq_true hg25 | replace hg25 := of_decide_eq_false hg25 | replace hg25 := Z.nd_true hg25 | replace hg25 := Z.nd_false hg25 | replace hg25 := Z.nn_true hg25 | replace hg25 := Z.nn_false hg25 | replace hg25 := Z.nb_true hg25 | replace hg25 := Z.nb_false hg25)
                    first
                    | (exfalso; first | (cases hg25; done) | omega)
                    | skip
                      refine Z.s_skip ?_
                      refine Z.s_skip ?_
                      refine Z.s_val (Z.pv_pick rfl rfl) ?_
                      refine Z.s_val (Z.pv_assign rfl) ?_
                      refine Z.j_nil ?_
                      refine Z.j_then ?_
                      refine Z.j_ret ?_
                      refine Z.j_done_ret (Z.rv1 (Z.rv_tmp (t := 6) rfl)) ?_
                      exact Z.post_of ⟨by simp [rightB, spanB, *] <;> omega, rfl⟩ (by repeat (first | with_reducible exact Z.Takes.nil | (apply Z.Takes.cons; (repeat (first | with_reducible exact Z.Take.here | apply Z.Take.there))))) (by repeat (first | with_reducible exact Z.Drop.nil | apply Z.Drop.cons))
      · try (with_reducible first | replace hg13 := of_decide_eq_true hg13 | replace hg13 := of_decide_eq_false hg13 | replace hg13 := Z.nd_true hg13 | replace hg13 := Z.nd_false hg13 | replace hg13 := Z.nn_true hg13 | replace hg13 := Z.nn_false hg13 | replace hg13 := Z.nb_true hg13 | replace hg13 := Z.nb_false hg13)
        first
        | (exfalso; first | (cases hg13; done) | omega)
        | skip
          refine Z.s_skip ?_
          refine Z.s_skip ?_
          refine Z.s_val (Z.pv_pick rfl rfl) ?_
          refine Z.s_val (Z.pv_move rfl) ?_
          refine Z.s_split 17 rfl (fun hg17 => ?_) (fun hg17 => ?_)
          · try (with_reducible first | replace hg17 := of_decide_eq_true hg17 | replace hg17 := of_decide_eq_false hg17 | replace hg17 := Z.nd_true hg17 | replace hg17 := Z.nd_false hg17 | replace hg17 := Z.nn_true hg17 | replace hg17 := Z.nn_false hg17 | replace hg17 := Z.nb_true hg17 | replace hg17 := Z.nb_false hg17)
            first
            | (exfalso; first | (cases hg17; done) | omega)
            | skip
              refine Z.s_val (Z.pv_move rfl) ?_
              refine Z.s_val (Z.pv_leq rfl rfl) ?_
              refine Z.s_val (Z.pv_pick rfl rfl) ?_
              refine Z.s_val (Z.pv_move rfl) ?_
              refine Z.s_split 21 rfl (fun hg21 => ?_) (fun hg21 => ?_)
              · try (with_reducible first | replace hg21 := of_decide_eq_true hg21 | replace hg21 := of_decide_eq_false hg21 | replace hg21 := Z.nd_true hg21 | replace hg21 := Z.nd_false hg21 | replace hg21 := Z.nn_true hg21 | replace hg21 := Z.nn_false hg21 | replace hg21 := Z.nb_true hg21 | replace hg21 := Z.nb_false hg21)
                first
                | (exfalso; first | (cases hg21; done) | omega)
                | skip
                  refine Z.s_val (Z.pv_move rfl) ?_
                  refine Z.s_val (Z.pv_geq rfl rfl) ?_
                  refine Z.s_val (Z.pv_pick rfl rfl) ?_
                  refine Z.s_val (Z.pv_move rfl) ?_
                  refine Z.s_split 25 rfl (fun hg25 => ?_) (fun hg25 => ?_)
                  · try (with_reducible first | replace hg25 := of_decide_eq_true hg25 | replace hg25 := of_decide_eq_false hg25 | replace hg25 := Z.nd_true hg25 | replace hg25 := Z.nd_false hg25 | replace hg25 := Z.nn_true hg25 | replace hg25 := Z.nn_false hg25 | replace hg25 := Z.nb_true hg25 | replace hg25 := Z.nb_false hg25)
                    first
                    | (exfalso; first | (cases hg25; done) | omega)
                    | skip
                      refine Z.s_val (Z.pv_move rfl) ?_
                      refine Z.s_val (Z.pv_leq rfl rfl) ?_
                      refine Z.s_val (Z.pv_pick rfl rfl) ?_
                      refine Z.s_val (Z.pv_assign rfl) ?_
                      refine Z.j_nil ?_
                      refine Z.j_then ?_
                      refine Z.j_ret ?_
                      refine Z.j_done_ret (Z.rv1 (Z.rv_tmp (t := 6) rfl)) ?_
                      exact Z.post_of ⟨by simp [rightB, spanB, *] <;> omega, rfl⟩ (by repeat (first | with_reducible exact Z.Takes.nil | (apply Z.Takes.cons; (repeat (first | with_reducible exact Z.Take.here | apply Z.Take.there))))) (by repeat (first | with_reducible exact Z.Drop.nil | apply Z.Drop.cons))
                  · try (with_reducible first | replace hg25 := of_decide_eq_true hg25 | replace hg25 := of_decide_eq_false hg25 | replace hg25 := Z.nd_true hg25 | replace hg25 := Z.nd_false hg25 | replace hg25 := Z.nn_true hg25 | replace hg25 := Z.nn_false hg25 | replace hg25 := Z.nb_true hg25 | replace hg25 := Z.nb_false hg25)
                    first
                    | (exfalso; first | (cases hg25; done) | omega)
                    | skip
                      refine Z.s_skip ?_
                      refine Z.s_skip ?_
                      refine Z.s_val (Z.pv_pick rfl rfl) ?_
                      refine Z.s_val (Z.pv_assign rfl) ?_
                      refine Z.j_nil ?_
                      refine Z.j_then ?_
                      refine Z.j_ret ?_
                      refine Z.j_done_ret (Z.rv1 (Z.rv_tmp (t := 6) rfl)) ?_
                      exact Z.post_of ⟨by simp [rightB, spanB, *] <;> omega, rfl⟩ (by repeat (first | with_reducible exact Z.Takes.nil | (apply Z.Takes.cons; (repeat (first | with_reducible exact Z.Take.here | apply Z.Take.there))))) (by repeat (first | with_reducible exact Z.Drop.nil | apply Z.Drop.cons))
              · try (with_reducible first | replace hg21 := of_decide_eq_true hg21 | replace hg21 := of_decide_eq_false hg21 | replace hg21 := Z.nd_true hg21 | replace hg21 := Z.nd_false hg21 | replace hg21 := Z.nn_true hg21 | replace hg21 := Z.nn_false hg21 | replace hg21 := Z.nb_true hg21 | replace hg21 := Z.nb_false hg21)
                first
                | (exfalso; first | (cases hg21; done) | omega)
                | skip
                  refine Z.s_skip ?_
                  refine Z.s_skip ?_
                  refine Z.s_val (Z.pv_pick rfl rfl) ?_
                  refine Z.s_val (Z.pv_move rfl) ?_
                  refine Z.s_split 25 rfl (fun hg25 => ?_) (fun hg25 => ?_)
                  · try (with_reducible first | replace hg25 := of_decide_eq_true hg25 | replace hg25 := of_decide_eq_false hg25 | replace hg25 := Z.nd_true hg25 | replace hg25 := Z.nd_false hg25 | replace hg25 := Z.nn_true hg25 | replace hg25 := Z.nn_false hg25 | replace hg25 := Z.nb_true hg25 | replace hg25 := Z.nb_false hg25)
                    first
                    | (exfalso; first | (cases hg25; done) | omega)
                    | skip
                      refine Z.s_val (Z.pv_move rfl) ?_
                      refine Z.s_val (Z.pv_leq rfl rfl) ?_
                      refine Z.s_val (Z.pv_pick rfl rfl) ?_
                      refine Z.s_val (Z.pv_assign rfl) ?_
                      refine Z.j_nil ?_
                      refine Z.j_then ?_
                      refine Z.j_ret ?_
                      refine Z.j_done_ret (Z.rv1 (Z.rv_tmp (t := 6) rfl)) ?_
                      exact Z.post_of ⟨by simp [rightB, spanB, *] <;> omega, rfl⟩ (by repeat (first | with_reducible exact Z.Takes.nil | (apply Z.Takes.cons; (repeat (first | with_reducible exact Z.Take.here | apply Z.Take.there))))) (by repeat (first | with_reducible exact Z.Drop.nil | apply Z.Drop.cons))
                  · try (with_reducible first | replace hg25 := of_decide_eq_true hg25 | replace hg25 := of_decide_eq_false hg25 | replace hg25 := Z.nd_true hg25 | replace hg25 := Z.nd_false hg25 | replace hg25 := Z.nn_true hg25 | replace hg25 := Z.nn_false hg25 | replace hg25 := Z.nb_true hg25 | replace hg25 := Z.nb_false hg25)
                    first
                    | (exfalso; first | (cases hg25; done) | omega)
                    | skip
                      refine Z.s_skip ?_
                      refine Z.s_skip ?_
                      refine Z.s_val (Z.pv_pick rfl rfl) ?_
                      refine Z.s_val (Z.pv_assign rfl) ?_
                      refine Z.j_nil ?_
                      refine Z.j_then ?_
                      refine Z.j_ret ?_
                      refine Z.j_done_ret (Z.rv1 (Z.rv_tmp (t := 6) rfl)) ?_
                      exact Z.post_of ⟨by simp [rightB, spanB, *] <;> omega, rfl⟩ (by repeat (first | with_reducible exact Z.Takes.nil | (apply Z.Takes.cons; (repeat (first | with_reducible exact Z.Take.here | apply Z.Take.there))))) (by repeat (first | with_reducible exact Z.Drop.nil | apply Z.Drop.cons))
          · try (with_reducible first | replace hg17 := of_decide_eq_true hg17 | replace hg17 := of_decide_eq_false hg17 | replace hg17 := Z.nd_true hg17 | replace hg17 := Z.nd_false hg17 | replace hg17 := Z.nn_true hg17 | replace hg17 := Z.nn_false hg17 | replace hg17 := Z.nb_true hg17 | replace hg17 := Z.nb_false hg17)
            first
            | (exfalso; first | (cases hg17; done) | omega)
            | skip
              refine Z.s_skip ?_
              refine Z.s_skip ?_
              refine Z.s_val (Z.pv_pick rfl rfl) ?_
              refine Z.s_val (Z.pv_move rfl) ?_
              refine Z.s_split 21 rfl (fun hg21 => ?_) (fun hg21 => ?_)
              · try (with_reducible first | replace hg21 := of_decide_eq_true hg21 | replace hg21 := of_decide_eq_false hg21 | replace hg21 := Z.nd_true hg21 | replace hg21 := Z.nd_false hg21 | replace hg21 := Z.nn_true hg21 | replace hg21 := Z.nn_false hg21 | replace hg21 := Z.nb_true hg21 | replace hg21 := Z.nb_false hg21)
                first
                | (exfalso; first | (cases hg21; done) | omega)
                | skip
                  refine Z.s_val (Z.pv_move rfl) ?_
                  refine Z.s_val (Z.pv_geq rfl rfl) ?_
                  refine Z.s_val (Z.pv_pick rfl rfl) ?_
                  refine Z.s_val (Z.pv_move rfl) ?_
                  refine Z.s_split 25 rfl (fun hg25 => ?_) (fun hg25 => ?_)
                  · try (with_reducible first | replace hg25 := of_decide_eq_true hg25 | replace hg25 := of_decide_eq_false hg25 | replace hg25 := Z.nd_true hg25 | replace hg25 := Z.nd_false hg25 | replace hg25 := Z.nn_true hg25 | replace hg25 := Z.nn_false hg25 | replace hg25 := Z.nb_true hg25 | replace hg25 := Z.nb_false hg25)
                    first
                    | (exfalso; first | (cases hg25; done) | omega)
                    | skip
                      refine Z.s_val (Z.pv_move rfl) ?_
                      refine Z.s_val (Z.pv_leq rfl rfl) ?_
                      refine Z.s_val (Z.pv_pick rfl rfl) ?_
                      refine Z.s_val (Z.pv_assign rfl) ?_
                      refine Z.j_nil ?_
                      refine Z.j_then ?_
                      refine Z.j_ret ?_
                      refine Z.j_done_ret (Z.rv1 (Z.rv_tmp (t := 6) rfl)) ?_
                      exact Z.post_of ⟨by simp [rightB, spanB, *] <;> omega, rfl⟩ (by repeat (first | with_reducible exact Z.Takes.nil | (apply Z.Takes.cons; (repeat (first | with_reducible exact Z.Take.here | apply Z.Take.there))))) (by repeat (first | with_reducible exact Z.Drop.nil | apply Z.Drop.cons))
                  · try (with_reducible first | replace hg25 := of_decide_eq_true hg25 | replace hg25 := of_decide_eq_false hg25 | replace hg25 := Z.nd_true hg25 | replace hg25 := Z.nd_false hg25 | replace hg25 := Z.nn_true hg25 | replace hg25 := Z.nn_false hg25 | replace hg25 := Z.nb_true hg25 | replace hg25 := Z.nb_false hg25)
                    first
                    | (exfalso; first | (cases hg25; done) | omega)
                    | skip
                      refine Z.s_skip ?_
                      refine Z.s_skip ?_
                      refine Z.s_val (Z.pv_pick rfl rfl) ?_
                      refine Z.s_val (Z.pv_assign rfl) ?_
                      refine Z.j_nil ?_
                      refine Z.j_then ?_
                      refine Z.j_ret ?_
                      refine Z.j_done_ret (Z.rv1 (Z.rv_tmp (t := 6) rfl)) ?_
                      exact Z.post_of ⟨by simp [rightB, spanB, *] <;> omega, rfl⟩ (by repeat (first | with_reducible exact Z.Takes.nil | (apply Z.Takes.cons; (repeat (first | with_reducible exact Z.Take.here | apply Z.Take.there))))) (by repeat (first | with_reducible exact Z.Drop.nil | apply Z.Drop.cons))
              · try (with_reducible first | replace hg21 := of_decide_eq_true hg21 | replace hg21 := of_decide_eq_false hg21 | replace hg21 := Z.nd_true hg21 | replace hg21 := Z.nd_false hg21 | replace hg21 := Z.nn_true hg21 | replace hg21 := Z.nn_false hg21 | replace hg21 := Z.nb_true hg21 | replace hg21 := Z.nb_false hg21)
                first
                | (exfalso; first | (cases hg21; done) | omega)
                | skip
                  refine Z.s_skip ?_
                  refine Z.s_skip ?_
                  refine Z.s_val (Z.pv_pick rfl rfl) ?_
                  refine Z.s_val (Z.pv_move rfl) ?_
                  refine Z.s_split 25 rfl (fun hg25 => ?_) (fun hg25 => ?_)
                  · try (with_reducible first | replace hg25 := of_decide_eq_true hg25 | replace hg25 := of_decide_eq_false hg25 | replace hg25 := Z.nd_true hg25 | replace hg25 := Z.nd_false hg25 | replace hg25 := Z.nn_true hg25 | replace hg25 := Z.nn_false hg25 | replace hg25 := Z.nb_true hg25 | replace hg25 := Z.nb_false hg25)
                    first
                    | (exfalso; first | (cases hg25; done) | omega)
                    | skip
                      refine Z.s_val (Z.pv_move rfl) ?_
                      refine Z.s_val (Z.pv_leq rfl rfl) ?_
                      refine Z.s_val (Z.pv_pick rfl rfl) ?_
                      refine Z.s_val (Z.pv_assign rfl) ?_
                      refine Z.j_nil ?_
                      refine Z.j_then ?_
                      refine Z.j_ret ?_
                      refine Z.j_done_ret (Z.rv1 (Z.rv_tmp (t := 6) rfl)) ?_
                      exact Z.post_of ⟨by simp [rightB, spanB, *] <;> omega, rfl⟩ (by repeat (first | with_reducible exact Z.Takes.nil | (apply Z.Takes.cons; (repeat (first | with_reducible exact Z.Take.here | apply Z.Take.there))))) (by repeat (first | with_reducible exact Z.Drop.nil | apply Z.Drop.cons))
                  · try (with_reducible first | replace hg25 := of_decide_eq_true hg25 | replace hg25 := of_decide_eq_false hg25 | replace hg25 := Z.nd_true hg25 | replace hg25 := Z.nd_false hg25 | replace hg25 := Z.nn_true hg25 | replace hg25 := Z.nn_false hg25 | replace hg25 := Z.nb_true hg25 | replace hg25 := Z.nb_false hg25)
                    first
                    | (exfalso; first | (cases hg25; done) | omega)
                    | skip
                      refine Z.s_skip ?_
                      refine Z.s_skip ?_
                      refine Z.s_val (Z.pv_pick rfl rfl) ?_
                      refine Z.s_val (Z.pv_assign rfl) ?_
                      refine Z.j_nil ?_
                      refine Z.j_then ?_
                      refine Z.j_ret ?_
                      refine Z.j_done_ret (Z.rv1 (Z.rv_tmp (t := 6) rfl)) ?_
                      exact Z.post_of ⟨by simp [rightB, spanB, *] <;> omega, rfl⟩ (by repeat (first | with_reducible exact Z.Takes.nil | (apply Z.Takes.cons; (repeat (first | with_reducible exact Z.Take.here | apply Z.Take.there))))) (by repeat (first | with_reducible exact Z.Drop.nil | apply Z.Drop.cons))

set_option maxHeartbeats 4000000 in
set_option maxRecDepth 100000 in
theorem span_spec (w0 : World) (n : Int) : Z.FnD Try.prog w0 16 [.int .i64 n] [] (.bool (spanB n)) [] := by
  refine Z.Fn.fnD ?_
  refine Z.fn_enter (n := 9) Try.func16 rfl (by rfl) (by rfl) (fun Fr => ?_)
  refine Z.j_app (by repeat (first | exact Z.App.nil | apply Z.App.cons)) ?_
  refine Z.j_seq ?_
  refine Z.j_region ?_
  refine Z.s_val (Z.pv_assign rfl) ?_
  refine Z.j_nil ?_
  refine Z.j_then ?_
  refine Z.j_seq ?_
  refine Z.j_region ?_
  refine Z.s_val (Z.pv_move rfl) ?_
  refine Z.s_val (Z.pv_geq rfl rfl) ?_
  refine Z.s_val (Z.pv_move rfl) ?_
  refine Z.s_split 5 rfl (fun hg5 => ?_) (fun hg5 => ?_)
  · try (with_reducible first | replace hg5 := of_decide_eq_true hg5 | replace hg5 := of_decide_eq_false hg5 | replace hg5 := Z.nd_true hg5 | replace hg5 := Z.nd_false hg5 | replace hg5 := Z.nn_true hg5 | replace hg5 := Z.nn_false hg5 | replace hg5 := Z.nb_true hg5 | replace hg5 := Z.nb_false hg5)
    first
    | (exfalso; first | (cases hg5; done) | omega)
    | skip
      refine Z.s_val (Z.pv_move rfl) ?_
      refine Z.s_val (Z.pv_leq rfl rfl) ?_
      refine Z.s_val (Z.pv_pick rfl rfl) ?_
      refine Z.s_val (Z.pv_assign rfl) ?_
      refine Z.j_nil ?_
      refine Z.j_then ?_
      refine Z.j_ret ?_
      refine Z.j_done_ret (Z.rv1 (Z.rv_tmp (t := 2) rfl)) ?_
      exact Z.post_of ⟨by first | (simp [spanB, *]; done) | (simp [spanB, *]; omega), rfl⟩ (by repeat (first | with_reducible exact Z.Takes.nil | (apply Z.Takes.cons; (repeat (first | with_reducible exact Z.Take.here | apply Z.Take.there))))) (by repeat (first | with_reducible exact Z.Drop.nil | apply Z.Drop.cons))
  · try (with_reducible first | replace hg5 := of_decide_eq_true hg5 | replace hg5 := of_decide_eq_false hg5 | replace hg5 := Z.nd_true hg5 | replace hg5 := Z.nd_false hg5 | replace hg5 := Z.nn_true hg5 | replace hg5 := Z.nn_false hg5 | replace hg5 := Z.nb_true hg5 | replace hg5 := Z.nb_false hg5)
    first
    | (exfalso; first | (cases hg5; done) | omega)
    | skip
      refine Z.s_skip ?_
      refine Z.s_skip ?_
      refine Z.s_val (Z.pv_pick rfl rfl) ?_
      refine Z.s_val (Z.pv_assign rfl) ?_
      refine Z.j_nil ?_
      refine Z.j_then ?_
      refine Z.j_ret ?_
      refine Z.j_done_ret (Z.rv1 (Z.rv_tmp (t := 2) rfl)) ?_
      exact Z.post_of ⟨by first | (simp [spanB, *]; done) | (simp [spanB, *]; omega), rfl⟩ (by repeat (first | with_reducible exact Z.Takes.nil | (apply Z.Takes.cons; (repeat (first | with_reducible exact Z.Take.here | apply Z.Take.there))))) (by repeat (first | with_reducible exact Z.Drop.nil | apply Z.Drop.cons))

set_option maxHeartbeats 4000000 in
set_option maxRecDepth 100000 in
theorem gone_spec (w0 : World) (a b c : Int) : Z.FnD Try.prog w0 21 [.int .i64 a, .int .i64 b, .int .i64 c] [] (.bool (gone a b c)) [] := by
  refine Z.Fn.fnD ?_
  refine Z.fn_enter (n := 23) Try.func21 rfl (by rfl) (by rfl) (fun Fr => ?_)
  refine Z.j_app (by repeat (first | exact Z.App.nil | apply Z.App.cons)) ?_
  refine Z.j_seq ?_
  refine Z.j_region ?_
  refine Z.s_val (Z.pv_assign rfl) ?_
  refine Z.j_nil ?_
  refine Z.j_then ?_
  refine Z.j_seq ?_
  refine Z.j_region ?_
  refine Z.s_val (Z.pv_move rfl) ?_
  refine Z.s_val (Z.pv_move rfl) ?_
  refine Z.s_val (Z.pv_sub rfl rfl rfl) ?_
  refine Z.s_val (Z.pv_assign rfl) ?_
  refine Z.j_nil ?_
  refine Z.j_then ?_
  refine Z.j_seq ?_
  refine Z.j_seq ?_
  refine Z.j_region ?_
  refine Z.s_val (Z.pv_move rfl) ?_
  refine Z.s_val (Z.pv_move rfl) ?_
  refine Z.s_val (Z.pv_lss rfl rfl) ?_
  refine Z.s_val (Z.pv_move rfl) ?_
  refine Z.s_val (Z.pv_lss rfl rfl) ?_
  refine Z.s_val (Z.pv_neqb rfl rfl Try.underlying4) ?_
  refine Z.j_nil ?_
  refine Z.j_then ?_
  refine Z.j_cond rfl (fun hc16 => ?_) (fun hc16 => ?_)
  · try (with_reducible first | replace hc16 := of_decide_eq_true hc16 | replace hc16 := of_decide_eq_false hc16 | replace hc16 := Z.nd_true hc16 | replace hc16 := Z.nd_false hc16 | replace hc16 := Z.nn_true hc16 | replace hc16 := Z.nn_false hc16 | replace hc16 := Z.nb_true hc16 | replace hc16 := Z.nb_false hc16)
    first
    | (exfalso; first | (cases hc16; done) | omega)
    | skip
      refine Z.j_seq ?_
      refine Z.j_region ?_
      refine Z.s_val (Z.pv_move rfl) ?_
      refine Z.s_val (Z.pv_move rfl) ?_
      refine Z.s_val (Z.pv_gtr rfl rfl) ?_
      refine Z.s_val (Z.pv_assign rfl) ?_
      refine Z.j_nil ?_
      refine Z.j_then ?_
      refine Z.j_ret ?_
      refine Z.j_then_ret ?_
      refine Z.j_done_ret (Z.rv1 (Z.rv_tmp (t := 6) rfl)) ?_
      exact Z.post_of ⟨by unfold gone; first | (rw [show (decide (b < a) != decide (IntKind.i64.wrap (b - a) < 0)) = true from by simpa using hc16]) | (rw [show (decide (b < a) != decide (IntKind.i64.wrap (b - a) < 0)) = false from by simpa using hc16]), rfl⟩ (by repeat (first | with_reducible exact Z.Takes.nil | (apply Z.Takes.cons; (repeat (first | with_reducible exact Z.Take.here | apply Z.Take.there))))) (by repeat (first | with_reducible exact Z.Drop.nil | apply Z.Drop.cons))
  · try (with_reducible first | replace hc16 := of_decide_eq_true hc16 | replace hc16 := of_decide_eq_false hc16 | replace hc16 := Z.nd_true hc16 | replace hc16 := Z.nd_false hc16 | replace hc16 := Z.nn_true hc16 | replace hc16 := Z.nn_false hc16 | replace hc16 := Z.nb_true hc16 | replace hc16 := Z.nb_false hc16)
    first
    | (exfalso; first | (cases hc16; done) | omega)
    | skip
      refine Z.j_skip ?_
      refine Z.j_then ?_
      refine Z.j_seq ?_
      refine Z.j_region ?_
      refine Z.s_val (Z.pv_move rfl) ?_
      refine Z.s_val (Z.pv_move rfl) ?_
      refine Z.s_val (Z.pv_geq rfl rfl) ?_
      refine Z.s_val (Z.pv_assign rfl) ?_
      refine Z.j_nil ?_
      refine Z.j_then ?_
      refine Z.j_ret ?_
      refine Z.j_done_ret (Z.rv1 (Z.rv_tmp (t := 6) rfl)) ?_
      exact Z.post_of ⟨by unfold gone; first | (rw [show (decide (b < a) != decide (IntKind.i64.wrap (b - a) < 0)) = true from by simpa using hc16]) | (rw [show (decide (b < a) != decide (IntKind.i64.wrap (b - a) < 0)) = false from by simpa using hc16]), rfl⟩ (by repeat (first | with_reducible exact Z.Takes.nil | (apply Z.Takes.cons; (repeat (first | with_reducible exact Z.Take.here | apply Z.Take.there))))) (by repeat (first | with_reducible exact Z.Drop.nil | apply Z.Drop.cons))


theorem gone_specb {w0 : World} {a b c : Int} {r : Bool} (h : gone a b c = r) : Z.FnD Try.prog w0 21 [.int .i64 a, .int .i64 b, .int .i64 c] [] (.bool r) [] := h ▸ gone_spec w0 a b c

set_option maxHeartbeats 4000000 in
set_option maxRecDepth 100000 in
theorem ended_t (w0 : World) (tb mb : Nat) (most idle abs p b l now : Int) (hG : gone l now idle = true) : Z.FnD Try.prog w0 17 [.pointer (some ⟨tb, 0, none⟩), .agg #[.int .i64 p, .int .i64 b, .int .i64 l], .int .i64 now] [Z.cl tb 54 [.map (some mb), .int .i64 most, .int .i64 idle, .int .i64 abs]] (.bool (ended idle abs ⟨p, b, l⟩ now)) [Z.cl tb 54 [.map (some mb), .int .i64 most, .int .i64 idle, .int .i64 abs]] := by
  refine Z.Fn.fnD ?_
  refine Z.fn_enter (n := 25) Try.func17 rfl (by rfl) (by rfl) (fun Fr => ?_)
  refine Z.j_app (by repeat (first | exact Z.App.nil | apply Z.App.cons)) ?_
  refine Z.j_seq ?_
  refine Z.j_region ?_
  refine Z.s_box rfl (fun b4 => ?_)
  refine Z.s_val (Z.pv_assign rfl) ?_
  refine Z.j_nil ?_
  refine Z.j_then ?_
  refine Z.j_seq ?_
  refine Z.j_draw (vals := [_, _, _, _, _, _, _, _, _, _, _, _, _, _, _, _, _, _, _]) 19 (by kernel_rfl) (by kernel_rfl) rfl (by rfl) (Z.heads_cons (Z.hq_val (Z.pv_fieldAddr (o' := 2) (by rfl) Try.underlying56 (by rfl) (by exact Try.sizeOf2) (by rfl))) (Z.heads_cons (Z.hq_val (Z.pv_load1 (by rfl) (by repeat (first | with_reducible exact Z.Take.here | apply Z.Take.there)) Try.isAgg2 (by rfl))) (Z.heads_cons (Z.hq_val (Z.pv_move (by rfl))) (Z.heads_cons (Z.hq_val (Z.pv_move (by rfl))) (Z.heads_cons (Z.hq_val (Z.pv_nil (by rfl))) (Z.heads_cons (Z.hq_val (Z.pv_fieldAddr (o' := 2) (by rfl) Try.underlying54 (by rfl) (by exact Try.sizeOf2) (by rfl))) (Z.heads_cons (Z.hq_val (Z.pv_load1 (by rfl) (by repeat (first | with_reducible exact Z.Take.here | apply Z.Take.there)) Try.isAgg2 (by rfl))) (Z.heads_cons (Z.hq_callD (by rfl) (by rfl) (by rfl) isFn21 (by repeat (first | with_reducible exact Z.Takes.nil | (apply Z.Takes.cons; (repeat (first | with_reducible exact Z.Take.here | apply Z.Take.there))))) (by repeat (first | with_reducible exact Z.Takes.nil | (apply Z.Takes.cons; (repeat (first | with_reducible exact Z.Take.here | apply Z.Take.there))))) (gone_specb hG)) (Z.heads_cons (Z.hq_val (Z.pv_move (by rfl))) (Z.heads_cons Z.hq_skip (Z.heads_cons Z.hq_skip (Z.heads_cons Z.hq_skip (Z.heads_cons Z.hq_skip (Z.heads_cons Z.hq_skip (Z.heads_cons Z.hq_skip (Z.heads_cons Z.hq_skip (Z.heads_cons Z.hq_skip (Z.heads_cons (Z.hq_val (Z.pv_pick (by rfl) (by rfl))) (Z.heads_cons (Z.hq_val (Z.pv_assign (by rfl))) Z.heads_nil))))))))))))))))))) ?_
  refine Z.j_nil ?_
  refine Z.j_then ?_
  refine Z.j_ret ?_
  refine Z.j_done_ret (Z.rv1 (Z.rv_tmp (t := 6) rfl)) ?_
  exact Z.post_of ⟨by simp only [ended, hG]; rfl, rfl⟩ (by repeat (first | with_reducible exact Z.Takes.nil | (apply Z.Takes.cons; (repeat (first | with_reducible exact Z.Take.here | apply Z.Take.there))))) (by repeat (first | with_reducible exact Z.Drop.nil | apply Z.Drop.cons))

set_option maxHeartbeats 4000000 in
set_option maxRecDepth 100000 in
theorem ended_f (w0 : World) (tb mb : Nat) (most idle abs p b l now : Int) (hG : gone l now idle = false) : Z.FnD Try.prog w0 17 [.pointer (some ⟨tb, 0, none⟩), .agg #[.int .i64 p, .int .i64 b, .int .i64 l], .int .i64 now] [Z.cl tb 54 [.map (some mb), .int .i64 most, .int .i64 idle, .int .i64 abs]] (.bool (ended idle abs ⟨p, b, l⟩ now)) [Z.cl tb 54 [.map (some mb), .int .i64 most, .int .i64 idle, .int .i64 abs]] := by
  refine Z.Fn.fnD ?_
  refine Z.fn_enter (n := 25) Try.func17 rfl (by rfl) (by rfl) (fun Fr => ?_)
  refine Z.j_app (by repeat (first | exact Z.App.nil | apply Z.App.cons)) ?_
  refine Z.j_seq ?_
  refine Z.j_region ?_
  refine Z.s_box rfl (fun b4 => ?_)
  refine Z.s_val (Z.pv_assign rfl) ?_
  refine Z.j_nil ?_
  refine Z.j_then ?_
  refine Z.j_seq ?_
  refine Z.j_draw (vals := [_, _, _, _, _, _, _, _, _, _, _, _, _, _, _, _, _, _, _]) 19 (by kernel_rfl) (by kernel_rfl) rfl (by rfl) (Z.heads_cons (Z.hq_val (Z.pv_fieldAddr (o' := 2) (by rfl) Try.underlying56 (by rfl) (by exact Try.sizeOf2) (by rfl))) (Z.heads_cons (Z.hq_val (Z.pv_load1 (by rfl) (by repeat (first | with_reducible exact Z.Take.here | apply Z.Take.there)) Try.isAgg2 (by rfl))) (Z.heads_cons (Z.hq_val (Z.pv_move (by rfl))) (Z.heads_cons (Z.hq_val (Z.pv_move (by rfl))) (Z.heads_cons (Z.hq_val (Z.pv_nil (by rfl))) (Z.heads_cons (Z.hq_val (Z.pv_fieldAddr (o' := 2) (by rfl) Try.underlying54 (by rfl) (by exact Try.sizeOf2) (by rfl))) (Z.heads_cons (Z.hq_val (Z.pv_load1 (by rfl) (by repeat (first | with_reducible exact Z.Take.here | apply Z.Take.there)) Try.isAgg2 (by rfl))) (Z.heads_cons (Z.hq_callD (by rfl) (by rfl) (by rfl) isFn21 (by repeat (first | with_reducible exact Z.Takes.nil | (apply Z.Takes.cons; (repeat (first | with_reducible exact Z.Take.here | apply Z.Take.there))))) (by repeat (first | with_reducible exact Z.Takes.nil | (apply Z.Takes.cons; (repeat (first | with_reducible exact Z.Take.here | apply Z.Take.there))))) (gone_specb hG)) (Z.heads_cons (Z.hq_val (Z.pv_move (by rfl))) (Z.heads_cons (Z.hq_val (Z.pv_fieldAddr (o' := 1) (by rfl) Try.underlying56 (by rfl) (by exact Try.sizeOf2) (by rfl))) (Z.heads_cons (Z.hq_val (Z.pv_load1 (by rfl) (by repeat (first | with_reducible exact Z.Take.here | apply Z.Take.there)) Try.isAgg2 (by rfl))) (Z.heads_cons (Z.hq_val (Z.pv_move (by rfl))) (Z.heads_cons (Z.hq_val (Z.pv_move (by rfl))) (Z.heads_cons (Z.hq_val (Z.pv_nil (by rfl))) (Z.heads_cons (Z.hq_val (Z.pv_fieldAddr (o' := 3) (by rfl) Try.underlying54 (by rfl) (by exact Try.sizeOf2) (by rfl))) (Z.heads_cons (Z.hq_val (Z.pv_load1 (by rfl) (by repeat (first | with_reducible exact Z.Take.here | apply Z.Take.there)) Try.isAgg2 (by rfl))) (Z.heads_cons (Z.hq_callD (by rfl) (by rfl) (by rfl) isFn21 (by repeat (first | with_reducible exact Z.Takes.nil | (apply Z.Takes.cons; (repeat (first | with_reducible exact Z.Take.here | apply Z.Take.there))))) (by repeat (first | with_reducible exact Z.Takes.nil | (apply Z.Takes.cons; (repeat (first | with_reducible exact Z.Take.here | apply Z.Take.there))))) (gone_spec _ _ _ _)) (Z.heads_cons (Z.hq_val (Z.pv_pick (by rfl) (by rfl))) (Z.heads_cons (Z.hq_val (Z.pv_assign (by rfl))) Z.heads_nil))))))))))))))))))) ?_
  refine Z.j_nil ?_
  refine Z.j_then ?_
  refine Z.j_ret ?_
  refine Z.j_done_ret (Z.rv1 (Z.rv_tmp (t := 6) rfl)) ?_
  exact Z.post_of ⟨by simp only [ended, hG]; rfl, rfl⟩ (by repeat (first | with_reducible exact Z.Takes.nil | (apply Z.Takes.cons; (repeat (first | with_reducible exact Z.Take.here | apply Z.Take.there))))) (by repeat (first | with_reducible exact Z.Drop.nil | apply Z.Drop.cons))


theorem ended_spec (w0 : World) (tb mb : Nat) (most idle abs p b l now : Int) : Z.FnD Try.prog w0 17 [.pointer (some ⟨tb, 0, none⟩), .agg #[.int .i64 p, .int .i64 b, .int .i64 l], .int .i64 now] [Z.cl tb 54 [.map (some mb), .int .i64 most, .int .i64 idle, .int .i64 abs]] (.bool (ended idle abs ⟨p, b, l⟩ now)) [Z.cl tb 54 [.map (some mb), .int .i64 most, .int .i64 idle, .int .i64 abs]] := by
  cases h : gone l now idle with
  | true => exact ended_t w0 tb mb most idle abs p b l now h
  | false => exact ended_f w0 tb mb most idle abs p b l now h

set_option maxHeartbeats 4000000 in
set_option maxRecDepth 100000 in
theorem del1_spec (w0 : World) (tb mb b2 b3 : Nat) (most idle abs now k p b l : Int) : Z.FnD Try.prog w0 19 [.int .u64 k, .agg #[.int .i64 p, .int .i64 b, .int .i64 l], .pointer (some ⟨b2, 0, none⟩), .pointer (some ⟨b3, 0, none⟩)] [Z.cl b2 25 [.pointer (some ⟨tb, 0, none⟩)], Z.cl b3 2 [.int .i64 now], Z.cl tb 54 [.map (some mb), .int .i64 most, .int .i64 idle, .int .i64 abs]] (.bool (ended idle abs ⟨p, b, l⟩ now)) [Z.cl b2 25 [.pointer (some ⟨tb, 0, none⟩)], Z.cl b3 2 [.int .i64 now], Z.cl tb 54 [.map (some mb), .int .i64 most, .int .i64 idle, .int .i64 abs]] := by
  refine Z.Fn.fnD ?_
  refine Z.fn_enter (n := 11) Try.func19 rfl (by rfl) (by rfl) (fun Fr => ?_)
  refine Z.j_app (by repeat (first | exact Z.App.nil | apply Z.App.cons)) ?_
  refine Z.j_seq ?_
  refine Z.j_region ?_
  refine Z.s_box rfl (fun b5 => ?_)
  refine Z.s_val (Z.pv_assign rfl) ?_
  refine Z.j_nil ?_
  refine Z.j_then ?_
  refine Z.j_seq ?_
  refine Z.j_region ?_
  refine Z.s_val (Z.pv_load1 rfl (by repeat (first | with_reducible exact Z.Take.here | apply Z.Take.there)) Try.isAgg25 (by rfl)) ?_
  refine Z.s_val (Z.pv_loadA rfl (by repeat (first | with_reducible exact Z.Take.here | apply Z.Take.there)) Try.isAgg56 Try.sizeOf56 (by rfl)) ?_
  refine Z.s_val (Z.pv_load1 rfl (by repeat (first | with_reducible exact Z.Take.here | apply Z.Take.there)) Try.isAgg2 (by rfl)) ?_
  refine Z.s_callD rfl rfl rfl isFn17 (by repeat (first | with_reducible exact Z.Takes.nil | (apply Z.Takes.cons; (repeat (first | with_reducible exact Z.Take.here | apply Z.Take.there))))) (by repeat (first | exact Z.App.nil | apply Z.App.cons)) (ended_spec _ _ _ _ _ _ _ _ _ _) ?_
  refine Z.s_val (Z.pv_assign rfl) ?_
  refine Z.j_nil ?_
  refine Z.j_then ?_
  refine Z.j_ret ?_
  refine Z.j_done_ret (Z.rv1 (Z.rv_tmp (t := 6) rfl)) ?_
  exact Z.post_of ⟨rfl, rfl⟩ (by repeat (first | with_reducible exact Z.Takes.nil | (apply Z.Takes.cons; (repeat (first | with_reducible exact Z.Take.here | apply Z.Take.there))))) (by repeat (first | with_reducible exact Z.Drop.nil | apply Z.Drop.cons))

set_option maxHeartbeats 4000000 in
set_option maxRecDepth 100000 in
theorem del_spec (w0 : World) (b : Nat) (m : M) (hnk : (keys m).Nodup) (cs : List Value) (Sp : Z.SP) (pd : Int → Sess → Bool) (hg : ∀ k p b l, Z.FnD Try.prog w0 19 ([.int .u64 k, .agg #[.int .i64 p, .int .i64 b, .int .i64 l]] ++ cs) [Sp] (.bool (pd k ⟨p, b, l⟩)) [Sp]) : Z.FnD Try.prog w0 18 [.map (some b), .func (.func 19) #[] cs.toArray] [Z.MapP b (Value.int .u64) Sess.e m, Sp] (.tuple #[]) [Z.MapP b (Value.int .u64) Sess.e (m.filter fun p => !pd p.1 p.2), Sp] := by
  refine Z.Fn.fnD ?_
  refine Z.fn_enter (n := 19) Try.func18 rfl (by rfl) (by rfl) (fun Fr => ?_)
  refine Z.j_app (by repeat (first | exact Z.App.nil | apply Z.App.cons)) ?_
  refine Z.j_seq ?_
  refine Z.j_region ?_
  refine Z.s_val (Z.pv_move rfl) ?_
  refine Z.s_range rfl Try.underlying52 (by repeat (first | with_reducible exact Z.Take.here | apply Z.Take.there)) (fun r7 bs7 clock7 hk7 => ?_)
  refine Z.j_nil ?_
  refine Z.j_then ?_
  refine Z.j_block ?_
  have hz : Z.BOK ((m.zip bs7).map (·.1)) ((m.zip bs7).map (·.2)) clock7 := by rw [Z.zip_fst hk7.1, Z.zip_snd hk7.1]; exact hk7
  have hbF : ∀ seen, Z.BOK ((Z.swp pd (m.zip bs7) seen).map (·.1)) ((Z.swp pd (m.zip bs7) seen).map (·.2)) clock7 := fun seen => Z.bok_swp hz
  have hkF : ∀ seen, ((Z.swp pd (m.zip bs7) seen).map (·.1.1)).Nodup := fun seen => by
    refine List.Nodup.sublist (List.filter_sublist.map _) ?_
    have e : (m.zip bs7).map (·.1.1) = keys m := by unfold keys; conv => rhs; rw [← Z.zip_fst hk7.1]
                                                    rw [List.map_map]; rfl
    rw [e]; exact hnk
  refine Z.j_cast (A := Z.MapB b (Value.int .u64) Sess.e m bs7 clock7) (B := Z.MapB b (Value.int .u64) Sess.e ((Z.swp pd (m.zip bs7) #[]).map (·.1)) ((Z.swp pd (m.zip bs7) #[]).map (·.2)) clock7) (by repeat (first | with_reducible exact Z.Take.here | apply Z.Take.there)) (by rw [Z.swp_nil, Z.zip_fst hk7.1, Z.zip_snd hk7.1]) ?_
  refine Z.j_initF (E' := [(0, .map (some b)), (1, .func (.func 19) #[] cs.toArray), (7, .pointer (some ⟨r7, 0, none⟩))]) (As := [Z.It r7 b clock7 (#[]), Z.MapB b (Value.int .u64) Sess.e ((Z.swp pd (m.zip bs7) (#[])).map (·.1)) ((Z.swp pd (m.zip bs7) (#[])).map (·.2)) clock7, Sp]) (Fr := Fr) (by repeat (first | exact trivial | refine ⟨rfl, ?_⟩)) (by repeat (first | with_reducible exact Z.Takes.nil | (apply Z.Takes.cons; (repeat (first | with_reducible exact Z.Take.here | apply Z.Take.there))))) (by repeat (first | with_reducible exact Z.Drop.nil | apply Z.Drop.cons)) ?_
  refine Z.j_loop (X := { x : (Array Nat) // True }) (fun (x : { x : (Array Nat) // True }) => [(0, .map (some b)), (1, .func (.func 19) #[] cs.toArray), (7, .pointer (some ⟨r7, 0, none⟩))]) (fun x => (fun (x : { x : (Array Nat) // True }) => [Z.It r7 b clock7 (x.1), Z.MapB b (Value.int .u64) Sess.e ((Z.swp pd (m.zip bs7) (x.1)).map (·.1)) ((Z.swp pd (m.zip bs7) (x.1)).map (·.2)) clock7, Sp]) x ++ Fr) (fun (x : { x : (Array Nat) // True }) => Z.mleft bs7 (x.1)) ⟨(#[]), trivial⟩ (fun x => ?_)
  obtain ⟨seen, hinv⟩ := x
  have hinv' : True := hinv
  obtain _ := hinv'
  show Z.J _ _ _ ([(0, .map (some b)), (1, .func (.func 19) #[] cs.toArray), (7, .pointer (some ⟨r7, 0, none⟩))]) ([Z.It r7 b clock7 seen, Z.MapB b (Value.int .u64) Sess.e ((Z.swp pd (m.zip bs7) seen).map (·.1)) ((Z.swp pd (m.zip bs7) seen).map (·.2)) clock7, Sp] ++ Fr) _
  refine Z.j_app (by repeat (first | exact Z.App.nil | apply Z.App.cons)) ?_
  refine Z.j_seq ?_
  refine Z.j_region ?_
  refine Z.s_next rfl (hbF seen) (by repeat (first | with_reducible exact Z.Take.here | apply Z.Take.there)) (fun _ => (by repeat (first | with_reducible exact Z.Upd.here | apply Z.Upd.there))) (fun hall8 => ?_) (fun ix8 ky8 vl8 y8 hm8 hy8 hns8 hlt8 => ?_)
  · skip
    refine Z.s_val (Z.pv_extract rfl rfl) ?_
    refine Z.j_nil ?_
    refine Z.j_then ?_
    refine Z.j_seq ?_
    refine Z.j_cond rfl (fun hc9 => ?_) (fun hc9 => ?_)
    · exfalso; first | (cases hc9; done) | (simp at hc9; done) | (simp at hc9; omega)
    · try (with_reducible first | replace hc9 := of_decide_eq_true hc9 | replace hc9 := of_decide_eq_false hc9 | replace hc9 := Z.nd_true hc9 | replace hc9 := Z.nd_false hc9 | replace hc9 := Z.nn_true hc9 | replace hc9 := Z.nn_false hc9 | replace hc9 := Z.nb_true hc9 | replace hc9 := Z.nb_false hc9)
      first
      | (exfalso; first | (cases hc9; done) | omega)
      | skip
        refine Z.j_exit ?_
        refine Z.j_then_exit ?_
        refine Z.j_then_exit ?_
        refine Z.j_blk_here rfl ?_
        refine Z.J.mapP_close (by repeat (first | with_reducible exact Z.Take.here | apply Z.Take.there)) (hbF seen) ?_
        rw [Z.swp_end hall8, Z.zip_fst hk7.1]
        refine Z.j_done Z.rv0 ?_
        exact Z.post_of ⟨rfl, rfl⟩ (by repeat (first | with_reducible exact Z.Takes.nil | (apply Z.Takes.cons; (repeat (first | with_reducible exact Z.Take.here | apply Z.Take.there))))) (by repeat (first | with_reducible exact Z.Drop.nil | apply Z.Drop.cons))
  · skip
    refine Z.s_val (Z.pv_extract rfl rfl) ?_
    refine Z.j_nil ?_
    refine Z.j_then ?_
    refine Z.j_seq ?_
    refine Z.j_cond rfl (fun hc9 => ?_) (fun hc9 => ?_)
    · try (with_reducible first | replace hc9 := of_decide_eq_true hc9 | replace hc9 := of_decide_eq_false hc9 | replace hc9 := Z.nd_true hc9 | replace hc9 := Z.nd_false hc9 | replace hc9 := Z.nn_true hc9 | replace hc9 := Z.nn_false hc9 | replace hc9 := Z.nb_true hc9 | replace hc9 := Z.nb_false hc9)
      first
      | (exfalso; first | (cases hc9; done) | omega)
      | skip
        obtain ⟨hq1, hq2⟩ := Z.swp_mem hm8 hy8
        have hlt : Z.mleft bs7 (seen.push y8) < Z.mleft bs7 seen := Z.mleft_push (by rw [← Z.zip_snd hk7.1]; exact List.mem_map.2 ⟨_, hq2, rfl⟩) hns8
        refine Z.j_skip ?_
        refine Z.j_then ?_
        refine Z.j_block ?_
        refine Z.j_seq ?_
        refine Z.j_region ?_
        refine Z.s_val (Z.pv_entry rfl (hbF seen) hm8 hy8 (by repeat (first | with_reducible exact Z.Take.here | apply Z.Take.there)) (by repeat (first | with_reducible exact Z.Take.here | apply Z.Take.there))) ?_
        refine Z.s_val (Z.pv_extract rfl rfl) ?_
        refine Z.s_val (Z.pv_extract rfl rfl) ?_
        refine Z.s_alloc Try.zeroValue56 (fun b5 => ?_)
        refine Z.s_val (Z.pv_assign rfl) ?_
        refine Z.s_storeA rfl rfl Try.sizeOf56 rfl (by repeat (first | with_reducible exact Z.Upd.here | apply Z.Upd.there)) (by rfl) ?_
        refine Z.j_nil ?_
        refine Z.j_then ?_
        refine Z.j_seq ?_
        refine Z.j_region ?_
        refine Z.s_val (Z.pv_move rfl) ?_
        refine Z.s_val (Z.pv_move rfl) ?_
        refine Z.s_val (Z.pv_loadA rfl (by repeat (first | with_reducible exact Z.Take.here | apply Z.Take.there)) Try.isAgg56 Try.sizeOf56 (by rfl)) ?_
        refine Z.s_callD (fs := []) rfl rfl rfl isFn19 (by repeat (first | with_reducible exact Z.Takes.nil | (apply Z.Takes.cons; (repeat (first | with_reducible exact Z.Take.here | apply Z.Take.there))))) (by repeat (first | exact Z.App.nil | apply Z.App.cons)) (hg _ _ _ _) ?_
        refine Z.j_nil ?_
        refine Z.j_then ?_
        refine Z.j_cond rfl (fun hc16 => ?_) (fun hc16 => ?_)
        · try (with_reducible first | replace hc16 := of_decide_eq_true hc16 | replace hc16 := of_decide_eq_false hc16 | replace hc16 := Z.nd_true hc16 | replace hc16 := Z.nd_false hc16 | replace hc16 := Z.nn_true hc16 | replace hc16 := Z.nn_false hc16 | replace hc16 := Z.nb_true hc16 | replace hc16 := Z.nb_false hc16)
          first
          | (exfalso; first | (cases hc16; done) | omega)
          | skip
            refine Z.j_region ?_
            refine Z.s_val (Z.pv_move rfl) ?_
            refine Z.s_val (Z.pv_move rfl) ?_
            refine Z.s_deleteB0 (k := ky8) (hbF seen) rfl rfl Try.underlying52 kU64 (by repeat (first | with_reducible exact Z.Take.here | apply Z.Take.there)) ?_
            refine Z.j_cast (A := Z.MapB b (Value.int .u64) Sess.e (Z.mdel ky8 ((Z.swp pd (m.zip bs7) seen).map (·.1))) (Z.mdelb ky8 ((Z.swp pd (m.zip bs7) seen).map (·.1)) ((Z.swp pd (m.zip bs7) seen).map (·.2))) clock7) (B := Z.MapB b (Value.int .u64) Sess.e ((Z.swp pd (m.zip bs7) (seen.push y8)).map (·.1)) ((Z.swp pd (m.zip bs7) (seen.push y8)).map (·.2)) clock7) (by repeat (first | with_reducible exact Z.Take.here | apply Z.Take.there)) (by obtain ⟨q1, q2⟩ := Z.mdel_zip (hkF seen) (hbF seen).2.1 (List.mem_of_getElem? hq1); rw [q1, q2, Z.swp_gone hz.2.1 hq2 hc16]) ?_
            refine Z.j_nil ?_
            refine Z.j_blk ?_
            refine Z.j_then ?_
            (refine Z.j_nextG (X := { x : (Array Nat) // True }) (EE := (fun (x : { x : (Array Nat) // True }) => [(0, .map (some b)), (1, .func (.func 19) #[] cs.toArray), (7, .pointer (some ⟨r7, 0, none⟩))])) (LL := (fun (x : { x : (Array Nat) // True }) => [Z.It r7 b clock7 (x.1), Z.MapB b (Value.int .u64) Sess.e ((Z.swp pd (m.zip bs7) (x.1)).map (·.1)) ((Z.swp pd (m.zip bs7) (x.1)).map (·.2)) clock7, Sp])) (μ := (fun (x : { x : (Array Nat) // True }) => Z.mleft bs7 (x.1))) (x := ⟨(seen), hinv⟩) ⟨(seen.push y8), trivial⟩ ?_ ?_ ?_; (show Z.mleft bs7 (seen.push y8) < Z.mleft bs7 seen; omega); (exact (by repeat (first | exact trivial | refine ⟨rfl, ?_⟩))); (exact Z.st_td (by repeat (first | with_reducible exact Z.Takes.nil | (apply Z.Takes.cons; (repeat (first | with_reducible exact Z.Take.here | apply Z.Take.there))))) (by repeat (first | with_reducible exact Z.Drop.nil | apply Z.Drop.cons))))
        · try (with_reducible first | replace hc16 := of_decide_eq_true hc16 | replace hc16 := of_decide_eq_false hc16 | replace hc16 := Z.nd_true hc16 | replace hc16 := Z.nd_false hc16 | replace hc16 := Z.nn_true hc16 | replace hc16 := Z.nn_false hc16 | replace hc16 := Z.nb_true hc16 | replace hc16 := Z.nb_false hc16)
          first
          | (exfalso; first | (cases hc16; done) | omega)
          | skip
            refine Z.j_cast (A := Z.MapB b (Value.int .u64) Sess.e ((Z.swp pd (m.zip bs7) seen).map (·.1)) ((Z.swp pd (m.zip bs7) seen).map (·.2)) clock7) (B := Z.MapB b (Value.int .u64) Sess.e ((Z.swp pd (m.zip bs7) (seen.push y8)).map (·.1)) ((Z.swp pd (m.zip bs7) (seen.push y8)).map (·.2)) clock7) (by repeat (first | with_reducible exact Z.Take.here | apply Z.Take.there)) (by rw [Z.swp_stays hz.2.1 hq2 hc16]) ?_
            refine Z.j_skip ?_
            refine Z.j_blk ?_
            refine Z.j_then ?_
            (refine Z.j_nextG (X := { x : (Array Nat) // True }) (EE := (fun (x : { x : (Array Nat) // True }) => [(0, .map (some b)), (1, .func (.func 19) #[] cs.toArray), (7, .pointer (some ⟨r7, 0, none⟩))])) (LL := (fun (x : { x : (Array Nat) // True }) => [Z.It r7 b clock7 (x.1), Z.MapB b (Value.int .u64) Sess.e ((Z.swp pd (m.zip bs7) (x.1)).map (·.1)) ((Z.swp pd (m.zip bs7) (x.1)).map (·.2)) clock7, Sp])) (μ := (fun (x : { x : (Array Nat) // True }) => Z.mleft bs7 (x.1))) (x := ⟨(seen), hinv⟩) ⟨(seen.push y8), trivial⟩ ?_ ?_ ?_; (show Z.mleft bs7 (seen.push y8) < Z.mleft bs7 seen; omega); (exact (by repeat (first | exact trivial | refine ⟨rfl, ?_⟩))); (exact Z.st_td (by repeat (first | with_reducible exact Z.Takes.nil | (apply Z.Takes.cons; (repeat (first | with_reducible exact Z.Take.here | apply Z.Take.there))))) (by repeat (first | with_reducible exact Z.Drop.nil | apply Z.Drop.cons))))
    · exfalso; first | (cases hc9; done) | (simp at hc9; done) | (simp at hc9; omega)

set_option maxHeartbeats 4000000 in
set_option maxRecDepth 100000 in
theorem len_spec (w0 : World) (tb : Nat) (t : Tab) : Z.FnD Try.prog w0 13 [.pointer (some ⟨tb, 0, none⟩)] [TabP tb t] (.int .i64 t.m.length) [TabP tb t] := by
  refine Z.Fn.fnD ?_
  refine Z.fn_enter (n := 8) Try.func13 rfl (by rfl) (by rfl) (fun Fr => ?_)
  refine Z.j_app (by repeat (first | exact Z.App.nil | apply Z.App.cons)) ?_
  refine Z.j_seq ?_
  refine Z.j_region ?_
  refine Z.s_val (Z.pv_assign rfl) ?_
  refine Z.j_nil ?_
  refine Z.j_then ?_
  refine Z.j_seq ?_
  refine Z.j_open (A := TabP tb t) (by repeat (first | with_reducible exact Z.Take.here | apply Z.Take.there)) (fun _ H => H) (fun mb => ?_)
  show Z.J _ _ _ _ (TabF tb mb t ++ _) _
  unfold TabF
  refine Z.j_app (by repeat (first | exact Z.App.nil | apply Z.App.cons)) ?_
  refine Z.j_region ?_
  refine Z.s_val (Z.pv_move rfl) ?_
  refine Z.s_val (Z.pv_nil rfl) ?_
  refine Z.s_val (Z.pv_fieldAddr (o' := 0) rfl Try.underlying54 rfl Try.sizeOf52 rfl) ?_
  refine Z.s_val (Z.pv_load1 rfl (by repeat (first | with_reducible exact Z.Take.here | apply Z.Take.there)) Try.isAgg52 (by rfl)) ?_
  refine Z.s_val (Z.pv_lenM rfl Try.underlying52 (by repeat (first | with_reducible exact Z.Take.here | apply Z.Take.there))) ?_
  refine Z.s_val (Z.pv_assign rfl) ?_
  refine Z.j_nil ?_
  refine Z.j_then ?_
  refine Z.j_ret ?_
  refine Z.j_fold (A := TabP tb t) (by repeat (first | with_reducible exact Z.Takes.nil | (apply Z.Takes.cons; (repeat (first | with_reducible exact Z.Take.here | apply Z.Take.there))))) (fun _ H => ⟨mb, H⟩) ?_
  refine Z.j_done_ret (Z.rv1 (Z.rv_tmp (t := 2) rfl)) ?_
  exact Z.post_of ⟨rfl, rfl⟩ (by repeat (first | with_reducible exact Z.Takes.nil | (apply Z.Takes.cons; (repeat (first | with_reducible exact Z.Take.here | apply Z.Take.there))))) (by repeat (first | with_reducible exact Z.Drop.nil | apply Z.Drop.cons))

set_option maxHeartbeats 4000000 in
set_option maxRecDepth 100000 in
theorem sweep_spec (w0 : World) (tb : Nat) (t : Tab) (now : Int) (ht : t.ok) : Z.FnD Try.prog w0 14 [.pointer (some ⟨tb, 0, none⟩), .int .i64 now] [TabP tb t] (.int .i64 (t.m.length - (t.sweep now).m.length)) [TabP tb (t.sweep now)] := by
  have hl1 := ht.len
  have hl2 := sweep_len (t := t) (now := now)
  refine Z.Fn.fnD ?_
  refine Z.fn_enter (n := 24) Try.func14 rfl (by rfl) (by rfl) (fun Fr => ?_)
  refine Z.j_app (by repeat (first | exact Z.App.nil | apply Z.App.cons)) ?_
  refine Z.j_seq ?_
  refine Z.j_region ?_
  refine Z.s_box1 rfl rfl (fun b2 => ?_)
  refine Z.s_box1 rfl rfl (fun b3 => ?_)
  refine Z.s_val (Z.pv_assign rfl) ?_
  refine Z.j_nil ?_
  refine Z.j_then ?_
  refine Z.j_seq ?_
  refine Z.j_open (A := TabP tb t) (by repeat (first | with_reducible exact Z.Take.here | apply Z.Take.there)) (fun _ H => H) (fun mb => ?_)
  show Z.J _ _ _ _ (TabF tb mb t ++ _) _
  unfold TabF
  refine Z.j_app (by repeat (first | exact Z.App.nil | apply Z.App.cons)) ?_
  refine Z.j_region ?_
  refine Z.s_val (Z.pv_load1 rfl (by repeat (first | with_reducible exact Z.Take.here | apply Z.Take.there)) Try.isAgg25 (by rfl)) ?_
  refine Z.s_val (Z.pv_nil rfl) ?_
  refine Z.s_val (Z.pv_fieldAddr rfl Try.underlying54 rfl Try.sizeOf52 rfl) ?_
  refine Z.s_val (Z.pv_load1 rfl (by repeat (first | with_reducible exact Z.Take.here | apply Z.Take.there)) Try.isAgg52 (by rfl)) ?_
  refine Z.s_val (Z.pv_lenM rfl Try.underlying52 (by repeat (first | with_reducible exact Z.Take.here | apply Z.Take.there))) ?_
  refine Z.s_val (Z.pv_assign rfl) ?_
  refine Z.j_nil ?_
  refine Z.j_then ?_
  refine Z.j_seq ?_
  refine Z.j_region ?_
  refine Z.s_val (Z.pv_load1 rfl (by repeat (first | with_reducible exact Z.Take.here | apply Z.Take.there)) Try.isAgg25 (by rfl)) ?_
  refine Z.s_val (Z.pv_nil rfl) ?_
  refine Z.s_val (Z.pv_fieldAddr rfl Try.underlying54 rfl Try.sizeOf52 rfl) ?_
  refine Z.s_val (Z.pv_load1 rfl (by repeat (first | with_reducible exact Z.Take.here | apply Z.Take.there)) Try.isAgg52 (by rfl)) ?_
  refine Z.s_val (Z.pv_func rfl rfl) ?_
  refine Z.j_fold (A := Z.sep [Z.cl b2 25 [.pointer (some ⟨tb, 0, none⟩)], Z.cl b3 2 [.int .i64 now], Z.cl tb 54 [.map (some mb), .int .i64 t.most, .int .i64 t.idle, .int .i64 t.abs]]) (by repeat (first | with_reducible exact Z.Takes.nil | (apply Z.Takes.cons; (repeat (first | with_reducible exact Z.Take.here | apply Z.Take.there))))) (fun _ H => H) ?_
  refine Z.s_callD rfl rfl rfl isFn18 (by repeat (first | with_reducible exact Z.Takes.nil | (apply Z.Takes.cons; (repeat (first | with_reducible exact Z.Take.here | apply Z.Take.there))))) (by repeat (first | exact Z.App.nil | apply Z.App.cons)) (del_spec _ mb t.m ht.nd _ (Z.sep [Z.cl b2 25 [.pointer (some ⟨tb, 0, none⟩)], Z.cl b3 2 [.int .i64 now], Z.cl tb 54 [.map (some mb), .int .i64 t.most, .int .i64 t.idle, .int .i64 t.abs]]) (fun _ s => t.ended s now) (fun k p b l => fnD_fold (del1_spec w0 tb mb b2 b3 t.most t.idle t.abs now k p b l))) ?_
  refine Z.j_open (F := fun (_ : Unit) => [Z.cl b2 25 [.pointer (some ⟨tb, 0, none⟩)], Z.cl b3 2 [.int .i64 now], Z.cl tb 54 [.map (some mb), .int .i64 t.most, .int .i64 t.idle, .int .i64 t.abs]]) (A := Z.sep [Z.cl b2 25 [.pointer (some ⟨tb, 0, none⟩)], Z.cl b3 2 [.int .i64 now], Z.cl tb 54 [.map (some mb), .int .i64 t.most, .int .i64 t.idle, .int .i64 t.abs]]) (by repeat (first | with_reducible exact Z.Take.here | apply Z.Take.there)) (fun _ H => ⟨(), H⟩) (fun _ => ?_)
  refine Z.j_app (by repeat (first | exact Z.App.nil | apply Z.App.cons)) ?_
  refine Z.j_cast (A := Z.MapP mb (Value.int .u64) Sess.e (t.m.filter fun p => !t.ended p.2 now)) (B := Z.MapP mb (Value.int .u64) Sess.e (t.sweep now).m) (by repeat (first | with_reducible exact Z.Take.here | apply Z.Take.there)) rfl ?_
  refine Z.j_nil ?_
  refine Z.j_then ?_
  refine Z.j_seq ?_
  refine Z.j_region ?_
  refine Z.s_val (Z.pv_move rfl) ?_
  refine Z.s_val (Z.pv_load1 rfl (by repeat (first | with_reducible exact Z.Take.here | apply Z.Take.there)) Try.isAgg25 (by rfl)) ?_
  refine Z.s_val (Z.pv_nil rfl) ?_
  refine Z.s_val (Z.pv_fieldAddr rfl Try.underlying54 rfl Try.sizeOf52 rfl) ?_
  refine Z.s_val (Z.pv_load1 rfl (by repeat (first | with_reducible exact Z.Take.here | apply Z.Take.there)) Try.isAgg52 (by rfl)) ?_
  refine Z.s_val (Z.pv_lenM rfl Try.underlying52 (by repeat (first | with_reducible exact Z.Take.here | apply Z.Take.there))) ?_
  refine Z.s_val (Z.pv_sub rfl rfl (by first | exact IntWalk.i64_in _ (by omega) | rfl)) ?_
  refine Z.s_val (Z.pv_assign rfl) ?_
  refine Z.j_nil ?_
  refine Z.j_then ?_
  refine Z.j_ret ?_
  refine Z.j_fold (A := TabP tb (t.sweep now)) (As := [Z.cl tb 54 [.map (some mb), .int .i64 t.most, .int .i64 t.idle, .int .i64 t.abs], Z.MapP mb (Value.int .u64) Sess.e (t.sweep now).m]) (by repeat (first | with_reducible exact Z.Takes.nil | (apply Z.Takes.cons; (repeat (first | with_reducible exact Z.Take.here | apply Z.Take.there))))) (fun _ H => ⟨mb, H⟩) ?_
  refine Z.j_done_ret (Z.rv1 (Z.rv_tmp (t := 4) rfl)) ?_
  exact Z.post_of ⟨rfl, rfl⟩ (by repeat (first | with_reducible exact Z.Takes.nil | (apply Z.Takes.cons; (repeat (first | with_reducible exact Z.Take.here | apply Z.Take.there))))) (by repeat (first | with_reducible exact Z.Drop.nil | apply Z.Drop.cons))

set_option maxHeartbeats 4000000 in
set_option maxRecDepth 100000 in
theorem close_spec (w0 : World) (tb : Nat) (t : Tab) (k : Int) : Z.FnD Try.prog w0 11 [.pointer (some ⟨tb, 0, none⟩), .int .u64 k] [TabP tb t] (.bool (Z.mget k t.m).isSome) [TabP tb (t.close k)] := by
  refine Z.Fn.fnD ?_
  refine Z.fn_enter (n := 22) Try.func11 rfl (by rfl) (by rfl) (fun Fr => ?_)
  refine Z.j_app (by repeat (first | exact Z.App.nil | apply Z.App.cons)) ?_
  refine Z.j_seq ?_
  refine Z.j_region ?_
  refine Z.s_val (Z.pv_assign rfl) ?_
  refine Z.j_nil ?_
  refine Z.j_then ?_
  refine Z.j_seq ?_
  refine Z.j_open (A := TabP tb t) (by repeat (first | with_reducible exact Z.Take.here | apply Z.Take.there)) (fun _ H => H) (fun mb => ?_)
  show Z.J _ _ _ _ (TabF tb mb t ++ _) _
  unfold TabF
  refine Z.j_app (by repeat (first | exact Z.App.nil | apply Z.App.cons)) ?_
  refine Z.j_region ?_
  refine Z.s_val (Z.pv_move rfl) ?_
  refine Z.s_val (Z.pv_nil rfl) ?_
  refine Z.s_val (Z.pv_fieldAddr (o' := 0) rfl Try.underlying54 rfl Try.sizeOf52 rfl) ?_
  refine Z.s_val (Z.pv_load1 rfl (by repeat (first | with_reducible exact Z.Take.here | apply Z.Take.there)) Try.isAgg52 (by rfl)) ?_
  refine Z.s_val (Z.pv_move rfl) ?_
  refine Z.s_val (Z.pv_lookupOkZ (k := k) (venc := Sess.e) (m := t.m) Sess.z rfl rfl Try.underlying52 kU64 Try.zeroValue56 (by repeat (first | with_reducible exact Z.Take.here | apply Z.Take.there))) ?_
  refine Z.s_val (Z.pv_move rfl) ?_
  refine Z.s_val (Z.pv_extract rfl rfl) ?_
  refine Z.s_val (Z.pv_extract rfl rfl) ?_
  refine Z.s_alloc Try.zeroValue56 (fun b5 => ?_)
  refine Z.s_storeA rfl rfl Try.sizeOf56 rfl (by repeat (first | with_reducible exact Z.Upd.here | apply Z.Upd.there)) (by rfl) ?_
  refine Z.s_val (Z.pv_assign rfl) ?_
  refine Z.j_nil ?_
  refine Z.j_then ?_
  refine Z.j_seq ?_
  refine Z.j_region ?_
  refine Z.s_val (Z.pv_move rfl) ?_
  refine Z.s_val (Z.pv_nil rfl) ?_
  refine Z.s_val (Z.pv_fieldAddr (o' := 0) rfl Try.underlying54 rfl Try.sizeOf52 rfl) ?_
  refine Z.s_val (Z.pv_load1 rfl (by repeat (first | with_reducible exact Z.Take.here | apply Z.Take.there)) Try.isAgg52 (by rfl)) ?_
  refine Z.s_val (Z.pv_move rfl) ?_
  refine Z.s_delete0 (k := k) rfl rfl Try.underlying52 kU64 (by repeat (first | with_reducible exact Z.Take.here | apply Z.Take.there)) ?_
  refine Z.j_nil ?_
  refine Z.j_then ?_
  refine Z.j_seq ?_
  refine Z.j_region ?_
  refine Z.s_val (Z.pv_move rfl) ?_
  refine Z.s_val (Z.pv_assign rfl) ?_
  refine Z.j_nil ?_
  refine Z.j_then ?_
  refine Z.j_ret ?_
  refine Z.j_fold (A := TabP tb (t.close k)) (As := [Z.cl tb 54 [.map (some mb), .int .i64 t.most, .int .i64 t.idle, .int .i64 t.abs], Z.MapP mb (Value.int .u64) Sess.e (Z.mdel k t.m)]) (by repeat (first | with_reducible exact Z.Takes.nil | (apply Z.Takes.cons; (repeat (first | with_reducible exact Z.Take.here | apply Z.Take.there))))) (fun _ H => ⟨mb, H⟩) ?_
  refine Z.j_done_ret (Z.rv1 (Z.rv_tmp (t := 4) rfl)) ?_
  exact Z.post_of ⟨rfl, rfl⟩ (by repeat (first | with_reducible exact Z.Takes.nil | (apply Z.Takes.cons; (repeat (first | with_reducible exact Z.Take.here | apply Z.Take.there))))) (by repeat (first | with_reducible exact Z.Drop.nil | apply Z.Drop.cons))

set_option maxHeartbeats 4000000 in
set_option maxRecDepth 100000 in
theorem useN_spec (w0 : World) (tb : Nat) (t : Tab) (k now : Int) (h : (Z.mget k t.m).isSome = false ∨ t.ended (Z.mval k Sess.z t.m) now = true) : Z.FnD Try.prog w0 12 [.pointer (some ⟨tb, 0, none⟩), .int .u64 k, .int .i64 now] [TabP tb t] (.tuple #[.int .i64 (t.useP k now), .int .i64 (t.useE k now)]) [TabP tb (t.useT k now)] := by
  obtain ⟨u1, u2, u3⟩ := use_none (has_none h)
  rw [u1, u2, u3]
  refine Z.Fn.fnD ?_
  refine Z.fn_enter (n := 42) Try.func12 rfl (by rfl) (by rfl) (fun Fr => ?_)
  refine Z.j_app (by repeat (first | exact Z.App.nil | apply Z.App.cons)) ?_
  refine Z.j_seq ?_
  refine Z.j_region ?_
  refine Z.s_val (Z.pv_assign rfl) ?_
  refine Z.s_val (Z.pv_assign rfl) ?_
  refine Z.j_nil ?_
  refine Z.j_then ?_
  refine Z.j_seq ?_
  refine Z.j_open (A := TabP tb t) (by repeat (first | with_reducible exact Z.Take.here | apply Z.Take.there)) (fun _ H => H) (fun mb => ?_)
  show Z.J _ _ _ _ (TabF tb mb t ++ _) _
  unfold TabF
  refine Z.j_app (by repeat (first | exact Z.App.nil | apply Z.App.cons)) ?_
  refine Z.j_region ?_
  refine Z.s_val (Z.pv_move rfl) ?_
  refine Z.s_val (Z.pv_nil rfl) ?_
  refine Z.s_val (Z.pv_fieldAddr (o' := 0) rfl Try.underlying54 rfl Try.sizeOf52 rfl) ?_
  refine Z.s_val (Z.pv_load1 rfl (by repeat (first | with_reducible exact Z.Take.here | apply Z.Take.there)) Try.isAgg52 (by rfl)) ?_
  refine Z.s_val (Z.pv_move rfl) ?_
  refine Z.s_val (Z.pv_lookupOkZ (k := k) (venc := Sess.e) (m := t.m) Sess.z rfl rfl Try.underlying52 kU64 Try.zeroValue56 (by repeat (first | with_reducible exact Z.Take.here | apply Z.Take.there))) ?_
  refine Z.s_val (Z.pv_move rfl) ?_
  refine Z.s_val (Z.pv_extract rfl rfl) ?_
  refine Z.s_val (Z.pv_extract rfl rfl) ?_
  refine Z.s_alloc Try.zeroValue56 (fun b8 => ?_)
  refine Z.s_storeA rfl rfl Try.sizeOf56 rfl (by repeat (first | with_reducible exact Z.Upd.here | apply Z.Upd.there)) (by rfl) ?_
  refine Z.s_val (Z.pv_assign rfl) ?_
  refine Z.j_nil ?_
  refine Z.j_then ?_
  refine Z.j_seq ?_
  refine Z.j_seq ?_
  refine Z.j_region ?_
  refine Z.s_val (Z.pv_move rfl) ?_
  refine Z.s_val (Z.pv_not rfl) ?_
  refine Z.s_val (Z.pv_move rfl) ?_
  refine Z.s_split 21 rfl (fun hg21 => ?_) (fun hg21 => ?_)
  · try (with_reducible first | replace hg21 := of_decide_eq_true hg21 | replace hg21 := of_decide_eq_false hg21 | replace hg21 := Z.nd_true hg21 | replace hg21 := Z.nd_false hg21 | replace hg21 := Z.nn_true hg21 | replace hg21 := Z.nn_false hg21 | replace hg21 := Z.nb_true hg21 | replace hg21 := Z.nb_false hg21)
    first
    | (exfalso; first | (cases hg21; done) | omega)
    | skip
      refine Z.s_skip ?_
      refine Z.s_skip ?_
      refine Z.s_skip ?_
      refine Z.s_skip ?_
      refine Z.s_val (Z.pv_pick rfl rfl) ?_
      refine Z.j_nil ?_
      refine Z.j_then ?_
      refine Z.j_cond rfl (fun hc26 => ?_) (fun hc26 => ?_)
      · try (with_reducible first | replace hc26 := of_decide_eq_true hc26 | replace hc26 := of_decide_eq_false hc26 | replace hc26 := Z.nd_true hc26 | replace hc26 := Z.nd_false hc26 | replace hc26 := Z.nn_true hc26 | replace hc26 := Z.nn_false hc26 | replace hc26 := Z.nb_true hc26 | replace hc26 := Z.nb_false hc26)
        first
        | (exfalso; first | (cases hc26; done) | omega)
        | skip
          refine Z.j_seq ?_
          refine Z.j_region ?_
          refine Z.s_val (Z.pv_move rfl) ?_
          refine Z.s_val (Z.pv_nil rfl) ?_
          refine Z.s_val (Z.pv_fieldAddr (o' := 0) rfl Try.underlying54 rfl Try.sizeOf52 rfl) ?_
          refine Z.s_val (Z.pv_load1 rfl (by repeat (first | with_reducible exact Z.Take.here | apply Z.Take.there)) Try.isAgg52 (by rfl)) ?_
          refine Z.s_val (Z.pv_move rfl) ?_
          refine Z.s_delete0 (k := k) rfl rfl Try.underlying52 kU64 (by repeat (first | with_reducible exact Z.Take.here | apply Z.Take.there)) ?_
          refine Z.j_nil ?_
          refine Z.j_then ?_
          refine Z.j_seq ?_
          refine Z.j_region ?_
          refine Z.s_val (Z.pv_assign rfl) ?_
          refine Z.s_val (Z.pv_assign rfl) ?_
          refine Z.j_nil ?_
          refine Z.j_then ?_
          refine Z.j_ret ?_
          refine Z.j_then_ret ?_
          refine Z.j_fold (A := TabP tb { t with m := Z.mdel k t.m }) (As := [Z.cl tb 54 [.map (some mb), .int .i64 t.most, .int .i64 t.idle, .int .i64 t.abs], Z.MapP mb (Value.int .u64) Sess.e (Z.mdel k t.m)]) (by repeat (first | with_reducible exact Z.Takes.nil | (apply Z.Takes.cons; (repeat (first | with_reducible exact Z.Take.here | apply Z.Take.there))))) (fun _ H => ⟨mb, H⟩) ?_
          refine Z.j_done_ret (Z.rv2 (Z.rv_tmp (t := 6) rfl) (Z.rv_tmp (t := 7) rfl)) ?_
          exact Z.post_of ⟨rfl, rfl⟩ (by repeat (first | with_reducible exact Z.Takes.nil | (apply Z.Takes.cons; (repeat (first | with_reducible exact Z.Take.here | apply Z.Take.there))))) (by repeat (first | with_reducible exact Z.Drop.nil | apply Z.Drop.cons))
      · try (with_reducible first | replace hc26 := of_decide_eq_true hc26 | replace hc26 := of_decide_eq_false hc26 | replace hc26 := Z.nd_true hc26 | replace hc26 := Z.nd_false hc26 | replace hc26 := Z.nn_true hc26 | replace hc26 := Z.nn_false hc26 | replace hc26 := Z.nb_true hc26 | replace hc26 := Z.nb_false hc26)
        exfalso
        first
        | (cases hc26; done)
        | (rcases h with h | h
           · rw [h] at hg21; cases hg21
           · exact Bool.noConfusion (h.symm.trans hc26))
  · try (with_reducible first | replace hg21 := of_decide_eq_true hg21 | replace hg21 := of_decide_eq_false hg21 | replace hg21 := Z.nd_true hg21 | replace hg21 := Z.nd_false hg21 | replace hg21 := Z.nn_true hg21 | replace hg21 := Z.nn_false hg21 | replace hg21 := Z.nb_true hg21 | replace hg21 := Z.nb_false hg21)
    first
    | (exfalso; first | (cases hg21; done) | omega)
    | skip
      refine Z.s_val (Z.pv_move rfl) ?_
      refine Z.s_val (Z.pv_loadA rfl (by repeat (first | with_reducible exact Z.Take.here | apply Z.Take.there)) Try.isAgg56 Try.sizeOf56 (by rfl)) ?_
      refine Z.s_val (Z.pv_move rfl) ?_
      refine Z.s_callD rfl rfl rfl isFn17 (by repeat (first | with_reducible exact Z.Takes.nil | (apply Z.Takes.cons; (repeat (first | with_reducible exact Z.Take.here | apply Z.Take.there))))) (by repeat (first | exact Z.App.nil | apply Z.App.cons)) (ended_spec _ _ _ _ _ _ _ _ _ _) ?_
      refine Z.s_val (Z.pv_pick rfl rfl) ?_
      refine Z.j_nil ?_
      refine Z.j_then ?_
      refine Z.j_cond rfl (fun hc26 => ?_) (fun hc26 => ?_)
      · try (with_reducible first | replace hc26 := of_decide_eq_true hc26 | replace hc26 := of_decide_eq_false hc26 | replace hc26 := Z.nd_true hc26 | replace hc26 := Z.nd_false hc26 | replace hc26 := Z.nn_true hc26 | replace hc26 := Z.nn_false hc26 | replace hc26 := Z.nb_true hc26 | replace hc26 := Z.nb_false hc26)
        first
        | (exfalso; first | (cases hc26; done) | omega)
        | skip
          refine Z.j_seq ?_
          refine Z.j_region ?_
          refine Z.s_val (Z.pv_move rfl) ?_
          refine Z.s_val (Z.pv_nil rfl) ?_
          refine Z.s_val (Z.pv_fieldAddr (o' := 0) rfl Try.underlying54 rfl Try.sizeOf52 rfl) ?_
          refine Z.s_val (Z.pv_load1 rfl (by repeat (first | with_reducible exact Z.Take.here | apply Z.Take.there)) Try.isAgg52 (by rfl)) ?_
          refine Z.s_val (Z.pv_move rfl) ?_
          refine Z.s_delete0 (k := k) rfl rfl Try.underlying52 kU64 (by repeat (first | with_reducible exact Z.Take.here | apply Z.Take.there)) ?_
          refine Z.j_nil ?_
          refine Z.j_then ?_
          refine Z.j_seq ?_
          refine Z.j_region ?_
          refine Z.s_val (Z.pv_assign rfl) ?_
          refine Z.s_val (Z.pv_assign rfl) ?_
          refine Z.j_nil ?_
          refine Z.j_then ?_
          refine Z.j_ret ?_
          refine Z.j_then_ret ?_
          refine Z.j_fold (A := TabP tb { t with m := Z.mdel k t.m }) (As := [Z.cl tb 54 [.map (some mb), .int .i64 t.most, .int .i64 t.idle, .int .i64 t.abs], Z.MapP mb (Value.int .u64) Sess.e (Z.mdel k t.m)]) (by repeat (first | with_reducible exact Z.Takes.nil | (apply Z.Takes.cons; (repeat (first | with_reducible exact Z.Take.here | apply Z.Take.there))))) (fun _ H => ⟨mb, H⟩) ?_
          refine Z.j_done_ret (Z.rv2 (Z.rv_tmp (t := 6) rfl) (Z.rv_tmp (t := 7) rfl)) ?_
          exact Z.post_of ⟨rfl, rfl⟩ (by repeat (first | with_reducible exact Z.Takes.nil | (apply Z.Takes.cons; (repeat (first | with_reducible exact Z.Take.here | apply Z.Take.there))))) (by repeat (first | with_reducible exact Z.Drop.nil | apply Z.Drop.cons))
      · try (with_reducible first | replace hc26 := of_decide_eq_true hc26 | replace hc26 := of_decide_eq_false hc26 | replace hc26 := Z.nd_true hc26 | replace hc26 := Z.nd_false hc26 | replace hc26 := Z.nn_true hc26 | replace hc26 := Z.nn_false hc26 | replace hc26 := Z.nb_true hc26 | replace hc26 := Z.nb_false hc26)
        exfalso
        first
        | (cases hc26; done)
        | (rcases h with h | h
           · rw [h] at hg21; cases hg21
           · exact Bool.noConfusion (h.symm.trans hc26))

set_option maxHeartbeats 4000000 in
set_option maxRecDepth 100000 in
theorem useS_spec (w0 : World) (tb : Nat) (t : Tab) (k now : Int) (h1 : (Z.mget k t.m).isSome = true) (h2 : t.ended (Z.mval k Sess.z t.m) now = false) : Z.FnD Try.prog w0 12 [.pointer (some ⟨tb, 0, none⟩), .int .u64 k, .int .i64 now] [TabP tb t] (.tuple #[.int .i64 (t.useP k now), .int .i64 (t.useE k now)]) [TabP tb (t.useT k now)] := by
  obtain ⟨u1, u2, u3⟩ := use_some (has_some h1 h2)
  rw [u1, u2, u3]
  refine Z.Fn.fnD ?_
  refine Z.fn_enter (n := 42) Try.func12 rfl (by rfl) (by rfl) (fun Fr => ?_)
  refine Z.j_app (by repeat (first | exact Z.App.nil | apply Z.App.cons)) ?_
  refine Z.j_seq ?_
  refine Z.j_region ?_
  refine Z.s_val (Z.pv_assign rfl) ?_
  refine Z.s_val (Z.pv_assign rfl) ?_
  refine Z.j_nil ?_
  refine Z.j_then ?_
  refine Z.j_seq ?_
  refine Z.j_open (A := TabP tb t) (by repeat (first | with_reducible exact Z.Take.here | apply Z.Take.there)) (fun _ H => H) (fun mb => ?_)
  show Z.J _ _ _ _ (TabF tb mb t ++ _) _
  unfold TabF
  refine Z.j_app (by repeat (first | exact Z.App.nil | apply Z.App.cons)) ?_
  refine Z.j_region ?_
  refine Z.s_val (Z.pv_move rfl) ?_
  refine Z.s_val (Z.pv_nil rfl) ?_
  refine Z.s_val (Z.pv_fieldAddr (o' := 0) rfl Try.underlying54 rfl Try.sizeOf52 rfl) ?_
  refine Z.s_val (Z.pv_load1 rfl (by repeat (first | with_reducible exact Z.Take.here | apply Z.Take.there)) Try.isAgg52 (by rfl)) ?_
  refine Z.s_val (Z.pv_move rfl) ?_
  refine Z.s_val (Z.pv_lookupOkZ (k := k) (venc := Sess.e) (m := t.m) Sess.z rfl rfl Try.underlying52 kU64 Try.zeroValue56 (by repeat (first | with_reducible exact Z.Take.here | apply Z.Take.there))) ?_
  refine Z.s_val (Z.pv_move rfl) ?_
  refine Z.s_val (Z.pv_extract rfl rfl) ?_
  refine Z.s_val (Z.pv_extract rfl rfl) ?_
  refine Z.s_alloc Try.zeroValue56 (fun b8 => ?_)
  refine Z.s_storeA rfl rfl Try.sizeOf56 rfl (by repeat (first | with_reducible exact Z.Upd.here | apply Z.Upd.there)) (by rfl) ?_
  refine Z.s_val (Z.pv_assign rfl) ?_
  refine Z.j_nil ?_
  refine Z.j_then ?_
  refine Z.j_seq ?_
  refine Z.j_seq ?_
  refine Z.j_region ?_
  refine Z.s_val (Z.pv_move rfl) ?_
  refine Z.s_val (Z.pv_not rfl) ?_
  refine Z.s_val (Z.pv_move rfl) ?_
  refine Z.s_is 21 rfl (show _ = Value.bool false from (by rw [h1]; rfl)) ?_
  refine Z.s_val (Z.pv_move rfl) ?_
  refine Z.s_val (Z.pv_loadA rfl (by repeat (first | with_reducible exact Z.Take.here | apply Z.Take.there)) Try.isAgg56 Try.sizeOf56 (by rfl)) ?_
  refine Z.s_val (Z.pv_move rfl) ?_
  refine Z.s_callD rfl rfl rfl isFn17 (by repeat (first | with_reducible exact Z.Takes.nil | (apply Z.Takes.cons; (repeat (first | with_reducible exact Z.Take.here | apply Z.Take.there))))) (by repeat (first | exact Z.App.nil | apply Z.App.cons)) (ended_spec _ _ _ _ _ _ _ _ _ _) ?_
  refine Z.s_val (Z.pv_pick rfl rfl) ?_
  refine Z.j_nil ?_
  refine Z.j_then ?_
  refine Z.j_cond rfl (fun hc26 => ?_) (fun hc26 => ?_)
  · try (with_reducible first | replace hc26 := of_decide_eq_true hc26 | replace hc26 := of_decide_eq_false hc26 | replace hc26 := Z.nd_true hc26 | replace hc26 := Z.nd_false hc26 | replace hc26 := Z.nn_true hc26 | replace hc26 := Z.nn_false hc26 | replace hc26 := Z.nb_true hc26 | replace hc26 := Z.nb_false hc26)
    exfalso; exact Bool.noConfusion (h2.symm.trans hc26)
  · try (with_reducible first | replace hc26 := of_decide_eq_true hc26 | replace hc26 := of_decide_eq_false hc26 | replace hc26 := Z.nd_true hc26 | replace hc26 := Z.nd_false hc26 | replace hc26 := Z.nn_true hc26 | replace hc26 := Z.nn_false hc26 | replace hc26 := Z.nb_true hc26 | replace hc26 := Z.nb_false hc26)
    first
    | (exfalso; first | (cases hc26; done) | omega)
    | skip
      refine Z.j_skip ?_
      refine Z.j_then ?_
      refine Z.j_seq ?_
      refine Z.j_region ?_
      refine Z.s_val (Z.pv_move rfl) ?_
      refine Z.s_val (Z.pv_fieldAddr (o' := 2) rfl Try.underlying56 rfl Try.sizeOf2 rfl) ?_
      refine Z.s_store1 rfl rfl (by first | rfl | assumption) Try.sizeOf2 (by repeat (first | with_reducible exact Z.Upd.here | apply Z.Upd.there)) (by rfl) ?_
      refine Z.j_nil ?_
      refine Z.j_then ?_
      refine Z.j_seq ?_
      refine Z.j_draw (vals := [_, _, _, _, _, _]) 6 (by kernel_rfl) (by kernel_rfl) rfl (by rfl) (Z.heads_cons (Z.hq_val (Z.pv_move (by rfl))) (Z.heads_cons (Z.hq_val (Z.pv_nil (by rfl))) (Z.heads_cons (Z.hq_val (Z.pv_fieldAddr (o' := 0) (by rfl) Try.underlying54 (by rfl) (by exact Try.sizeOf52) (by rfl))) (Z.heads_cons (Z.hq_val (Z.pv_load1 (by rfl) (by repeat (first | with_reducible exact Z.Take.here | apply Z.Take.there)) Try.isAgg52 (by rfl))) (Z.heads_cons (Z.hq_val (Z.pv_move (by rfl))) (Z.heads_cons (Z.hq_val (Z.pv_loadA (by rfl) (by repeat (first | with_reducible exact Z.Take.here | apply Z.Take.there)) Try.isAgg56 (by exact Try.sizeOf56) (by rfl))) Z.heads_nil)))))) ?_
      refine Z.s_mapUpdate (k := k) (v := { Z.mval k Sess.z t.m with l := now }) rfl rfl rfl Try.underlying52 kU64 (by repeat (first | with_reducible exact Z.Take.here | apply Z.Take.there)) ?_
      refine Z.j_nil ?_
      refine Z.j_then ?_
      refine Z.j_seq ?_
      refine Z.j_region ?_
      refine Z.s_val (Z.pv_fieldAddr (o' := 0) rfl Try.underlying56 rfl Try.sizeOf3 rfl) ?_
      refine Z.s_val (Z.pv_load1 rfl (by repeat (first | with_reducible exact Z.Take.here | apply Z.Take.there)) Try.isAgg3 (by rfl)) ?_
      refine Z.s_val (Z.pv_assign rfl) ?_
      refine Z.s_val (Z.pv_assign rfl) ?_
      refine Z.j_nil ?_
      refine Z.j_then ?_
      refine Z.j_ret ?_
      refine Z.j_fold (A := TabP tb { t with m := Z.mput k { Z.mval k Sess.z t.m with l := now } t.m }) (As := [Z.cl tb 54 [.map (some mb), .int .i64 t.most, .int .i64 t.idle, .int .i64 t.abs], Z.MapP mb (Value.int .u64) Sess.e (Z.mput k { Z.mval k Sess.z t.m with l := now } t.m)]) (by repeat (first | with_reducible exact Z.Takes.nil | (apply Z.Takes.cons; (repeat (first | with_reducible exact Z.Take.here | apply Z.Take.there))))) (fun _ H => ⟨mb, H⟩) ?_
      refine Z.j_done_ret (Z.rv2 (Z.rv_tmp (t := 6) rfl) (Z.rv_tmp (t := 7) rfl)) ?_
      exact Z.post_of ⟨rfl, rfl⟩ (by repeat (first | with_reducible exact Z.Takes.nil | (apply Z.Takes.cons; (repeat (first | with_reducible exact Z.Take.here | apply Z.Take.there))))) (by repeat (first | with_reducible exact Z.Drop.nil | apply Z.Drop.cons))


theorem use_spec (w0 : World) (tb : Nat) (t : Tab) (k now : Int)  : Z.FnD Try.prog w0 12 [.pointer (some ⟨tb, 0, none⟩), .int .u64 k, .int .i64 now] [TabP tb t] (.tuple #[.int .i64 (t.useP k now), .int .i64 (t.useE k now)]) [TabP tb (t.useT k now)] := by
  cases h1 : (Z.mget k t.m).isSome with
  | false => exact useN_spec w0 tb t k now (.inl h1)
  | true => cases h2 : t.ended (Z.mval k Sess.z t.m) now with
    | true => exact useN_spec w0 tb t k now (.inr h2)
    | false => exact useS_spec w0 tb t k now h1 h2

set_option maxHeartbeats 4000000 in
set_option maxRecDepth 100000 in
theorem open41_spec (w0 : World) (tb : Nat) (t : Tab) (p d now : Int) (ht : t.ok) (h : d = 0 ∨ (Z.mget d (t.sweep now).m).isSome = true) : Z.FnD Try.prog w0 10 [.pointer (some ⟨tb, 0, none⟩), .int .i64 p, .int .u64 d, .int .i64 now] [TabP tb t] (.int .i64 (t.openE d now)) [TabP tb (t.openT p d now)] := by
  obtain ⟨u1, u2⟩ := openT_41 (p := p) h
  rw [u1, u2]
  refine Z.Fn.fnD ?_
  refine Z.fn_enter (n := 49) Try.func10 rfl (by rfl) (by rfl) (fun Fr => ?_)
  refine Z.j_app (by repeat (first | exact Z.App.nil | apply Z.App.cons)) ?_
  refine Z.j_seq ?_
  refine Z.j_region ?_
  refine Z.s_val (Z.pv_assign rfl) ?_
  refine Z.j_nil ?_
  refine Z.j_then ?_
  refine Z.j_seq ?_
  refine Z.j_region ?_
  refine Z.s_val (Z.pv_move rfl) ?_
  refine Z.s_val (Z.pv_move rfl) ?_
  refine Z.s_callD rfl rfl rfl isFn14 (by repeat (first | with_reducible exact Z.Takes.nil | (apply Z.Takes.cons; (repeat (first | with_reducible exact Z.Take.here | apply Z.Take.there))))) (by repeat (first | exact Z.App.nil | apply Z.App.cons)) (sweep_spec _ _ _ _ (by assumption)) ?_
  refine Z.j_nil ?_
  refine Z.j_then ?_
  refine Z.j_seq ?_
  refine Z.j_open (A := TabP tb (t.sweep now)) (by repeat (first | with_reducible exact Z.Take.here | apply Z.Take.there)) (fun _ H => H) (fun mb => ?_)
  show Z.J _ _ _ _ (TabF tb mb (t.sweep now) ++ _) _
  unfold TabF
  refine Z.j_app (by repeat (first | exact Z.App.nil | apply Z.App.cons)) ?_
  refine Z.j_region ?_
  refine Z.s_val (Z.pv_move rfl) ?_
  refine Z.s_val (Z.pv_nil rfl) ?_
  refine Z.s_val (Z.pv_fieldAddr (o' := 0) rfl Try.underlying54 rfl Try.sizeOf52 rfl) ?_
  refine Z.s_val (Z.pv_load1 rfl (by repeat (first | with_reducible exact Z.Take.here | apply Z.Take.there)) Try.isAgg52 (by rfl)) ?_
  refine Z.s_val (Z.pv_move rfl) ?_
  refine Z.s_val (Z.pv_lookupOkZ (k := d) (venc := Sess.e) (m := (t.sweep now).m) Sess.z rfl rfl Try.underlying52 kU64 Try.zeroValue56 (by repeat (first | with_reducible exact Z.Take.here | apply Z.Take.there))) ?_
  refine Z.s_val (Z.pv_move rfl) ?_
  refine Z.s_val (Z.pv_extract rfl rfl) ?_
  refine Z.s_val (Z.pv_extract rfl rfl) ?_
  refine Z.s_alloc Try.zeroValue56 (fun b9 => ?_)
  refine Z.s_storeA rfl rfl Try.sizeOf56 rfl (by repeat (first | with_reducible exact Z.Upd.here | apply Z.Upd.there)) (by rfl) ?_
  refine Z.s_val (Z.pv_assign rfl) ?_
  refine Z.j_nil ?_
  refine Z.j_then ?_
  refine Z.j_seq ?_
  refine Z.j_block ?_
  refine Z.j_seq ?_
  refine Z.j_region ?_
  refine Z.s_val (Z.pv_move rfl) ?_
  refine Z.s_val (Z.pv_eql rfl rfl) ?_
  refine Z.s_val (Z.pv_move rfl) ?_
  refine Z.s_split 26 rfl (fun hg26 => ?_) (fun hg26 => ?_)
  · try (with_reducible first | replace hg26 := of_decide_eq_true hg26 | replace hg26 := of_decide_eq_false hg26 | replace hg26 := Z.nd_true hg26 | replace hg26 := Z.nd_false hg26 | replace hg26 := Z.nn_true hg26 | replace hg26 := Z.nn_false hg26 | replace hg26 := Z.nb_true hg26 | replace hg26 := Z.nb_false hg26)
    first
    | (exfalso; first | (cases hg26; done) | omega)
    | skip
      refine Z.s_skip ?_
      refine Z.s_val (Z.pv_pick rfl rfl) ?_
      refine Z.s_val (Z.pv_assign rfl) ?_
      refine Z.j_nil ?_
      refine Z.j_then ?_
      refine Z.j_cond rfl (fun hc23 => ?_) (fun hc23 => ?_)
      · try (with_reducible first | replace hc23 := of_decide_eq_true hc23 | replace hc23 := of_decide_eq_false hc23 | replace hc23 := Z.nd_true hc23 | replace hc23 := Z.nd_false hc23 | replace hc23 := Z.nn_true hc23 | replace hc23 := Z.nn_false hc23 | replace hc23 := Z.nb_true hc23 | replace hc23 := Z.nb_false hc23)
        first
        | (exfalso; first | (cases hc23; done) | omega)
        | skip
          refine Z.j_seq ?_
          refine Z.j_region ?_
          refine Z.s_val (Z.pv_assign rfl) ?_
          refine Z.j_nil ?_
          refine Z.j_then ?_
          refine Z.j_ret ?_
          refine Z.j_blk_ret ?_
          refine Z.j_then_ret ?_
          refine Z.j_fold (A := TabP tb (t.sweep now)) (As := [Z.cl tb 54 [.map (some mb), .int .i64 (t.sweep now).most, .int .i64 (t.sweep now).idle, .int .i64 (t.sweep now).abs], Z.MapP mb (Value.int .u64) Sess.e (t.sweep now).m]) (by repeat (first | with_reducible exact Z.Takes.nil | (apply Z.Takes.cons; (repeat (first | with_reducible exact Z.Take.here | apply Z.Take.there))))) (fun _ H => ⟨mb, H⟩) ?_
          refine Z.j_done_ret (Z.rv1 (Z.rv_tmp (t := 8) rfl)) ?_
          exact Z.post_of ⟨rfl, rfl⟩ (by repeat (first | with_reducible exact Z.Takes.nil | (apply Z.Takes.cons; (repeat (first | with_reducible exact Z.Take.here | apply Z.Take.there))))) (by repeat (first | with_reducible exact Z.Drop.nil | apply Z.Drop.cons))
      · try (with_reducible first | replace hc23 := of_decide_eq_true hc23 | replace hc23 := of_decide_eq_false hc23 | replace hc23 := Z.nd_true hc23 | replace hc23 := Z.nd_false hc23 | replace hc23 := Z.nn_true hc23 | replace hc23 := Z.nn_false hc23 | replace hc23 := Z.nb_true hc23 | replace hc23 := Z.nb_false hc23)
        exfalso
        first
        | (cases hc23; done)
        | (rcases h with h | h
           · exact hg26 h
           · exact Bool.noConfusion (h.symm.trans hc23))
  · try (with_reducible first | replace hg26 := of_decide_eq_true hg26 | replace hg26 := of_decide_eq_false hg26 | replace hg26 := Z.nd_true hg26 | replace hg26 := Z.nd_false hg26 | replace hg26 := Z.nn_true hg26 | replace hg26 := Z.nn_false hg26 | replace hg26 := Z.nb_true hg26 | replace hg26 := Z.nb_false hg26)
    first
    | (exfalso; first | (cases hg26; done) | omega)
    | skip
      refine Z.s_val (Z.pv_move rfl) ?_
      refine Z.s_val (Z.pv_pick rfl rfl) ?_
      refine Z.s_val (Z.pv_assign rfl) ?_
      refine Z.j_nil ?_
      refine Z.j_then ?_
      refine Z.j_cond rfl (fun hc23 => ?_) (fun hc23 => ?_)
      · try (with_reducible first | replace hc23 := of_decide_eq_true hc23 | replace hc23 := of_decide_eq_false hc23 | replace hc23 := Z.nd_true hc23 | replace hc23 := Z.nd_false hc23 | replace hc23 := Z.nn_true hc23 | replace hc23 := Z.nn_false hc23 | replace hc23 := Z.nb_true hc23 | replace hc23 := Z.nb_false hc23)
        first
        | (exfalso; first | (cases hc23; done) | omega)
        | skip
          refine Z.j_seq ?_
          refine Z.j_region ?_
          refine Z.s_val (Z.pv_assign rfl) ?_
          refine Z.j_nil ?_
          refine Z.j_then ?_
          refine Z.j_ret ?_
          refine Z.j_blk_ret ?_
          refine Z.j_then_ret ?_
          refine Z.j_fold (A := TabP tb (t.sweep now)) (As := [Z.cl tb 54 [.map (some mb), .int .i64 (t.sweep now).most, .int .i64 (t.sweep now).idle, .int .i64 (t.sweep now).abs], Z.MapP mb (Value.int .u64) Sess.e (t.sweep now).m]) (by repeat (first | with_reducible exact Z.Takes.nil | (apply Z.Takes.cons; (repeat (first | with_reducible exact Z.Take.here | apply Z.Take.there))))) (fun _ H => ⟨mb, H⟩) ?_
          refine Z.j_done_ret (Z.rv1 (Z.rv_tmp (t := 8) rfl)) ?_
          exact Z.post_of ⟨rfl, rfl⟩ (by repeat (first | with_reducible exact Z.Takes.nil | (apply Z.Takes.cons; (repeat (first | with_reducible exact Z.Take.here | apply Z.Take.there))))) (by repeat (first | with_reducible exact Z.Drop.nil | apply Z.Drop.cons))
      · try (with_reducible first | replace hc23 := of_decide_eq_true hc23 | replace hc23 := of_decide_eq_false hc23 | replace hc23 := Z.nd_true hc23 | replace hc23 := Z.nd_false hc23 | replace hc23 := Z.nn_true hc23 | replace hc23 := Z.nn_false hc23 | replace hc23 := Z.nb_true hc23 | replace hc23 := Z.nb_false hc23)
        exfalso
        first
        | (cases hc23; done)
        | (rcases h with h | h
           · exact hg26 h
           · exact Bool.noConfusion (h.symm.trans hc23))

set_option maxHeartbeats 4000000 in
set_option maxRecDepth 100000 in
theorem open3_spec (w0 : World) (tb : Nat) (t : Tab) (p d now : Int) (ht : t.ok) (h1 : ¬ d = 0) (h2 : (Z.mget d (t.sweep now).m).isSome = false) (h3 : ((t.sweep now).m.length : Int) = t.most) : Z.FnD Try.prog w0 10 [.pointer (some ⟨tb, 0, none⟩), .int .i64 p, .int .u64 d, .int .i64 now] [TabP tb t] (.int .i64 (t.openE d now)) [TabP tb (t.openT p d now)] := by
  obtain ⟨u1, u2⟩ := openT_3 (p := p) h1 h2 h3
  rw [u1, u2]
  refine Z.Fn.fnD ?_
  refine Z.fn_enter (n := 49) Try.func10 rfl (by rfl) (by rfl) (fun Fr => ?_)
  refine Z.j_app (by repeat (first | exact Z.App.nil | apply Z.App.cons)) ?_
  refine Z.j_seq ?_
  refine Z.j_region ?_
  refine Z.s_val (Z.pv_assign rfl) ?_
  refine Z.j_nil ?_
  refine Z.j_then ?_
  refine Z.j_seq ?_
  refine Z.j_region ?_
  refine Z.s_val (Z.pv_move rfl) ?_
  refine Z.s_val (Z.pv_move rfl) ?_
  refine Z.s_callD rfl rfl rfl isFn14 (by repeat (first | with_reducible exact Z.Takes.nil | (apply Z.Takes.cons; (repeat (first | with_reducible exact Z.Take.here | apply Z.Take.there))))) (by repeat (first | exact Z.App.nil | apply Z.App.cons)) (sweep_spec _ _ _ _ (by assumption)) ?_
  refine Z.j_nil ?_
  refine Z.j_then ?_
  refine Z.j_seq ?_
  refine Z.j_open (A := TabP tb (t.sweep now)) (by repeat (first | with_reducible exact Z.Take.here | apply Z.Take.there)) (fun _ H => H) (fun mb => ?_)
  show Z.J _ _ _ _ (TabF tb mb (t.sweep now) ++ _) _
  unfold TabF
  refine Z.j_app (by repeat (first | exact Z.App.nil | apply Z.App.cons)) ?_
  refine Z.j_region ?_
  refine Z.s_val (Z.pv_move rfl) ?_
  refine Z.s_val (Z.pv_nil rfl) ?_
  refine Z.s_val (Z.pv_fieldAddr (o' := 0) rfl Try.underlying54 rfl Try.sizeOf52 rfl) ?_
  refine Z.s_val (Z.pv_load1 rfl (by repeat (first | with_reducible exact Z.Take.here | apply Z.Take.there)) Try.isAgg52 (by rfl)) ?_
  refine Z.s_val (Z.pv_move rfl) ?_
  refine Z.s_val (Z.pv_lookupOkZ (k := d) (venc := Sess.e) (m := (t.sweep now).m) Sess.z rfl rfl Try.underlying52 kU64 Try.zeroValue56 (by repeat (first | with_reducible exact Z.Take.here | apply Z.Take.there))) ?_
  refine Z.s_val (Z.pv_move rfl) ?_
  refine Z.s_val (Z.pv_extract rfl rfl) ?_
  refine Z.s_val (Z.pv_extract rfl rfl) ?_
  refine Z.s_alloc Try.zeroValue56 (fun b9 => ?_)
  refine Z.s_storeA rfl rfl Try.sizeOf56 rfl (by repeat (first | with_reducible exact Z.Upd.here | apply Z.Upd.there)) (by rfl) ?_
  refine Z.s_val (Z.pv_assign rfl) ?_
  refine Z.j_nil ?_
  refine Z.j_then ?_
  refine Z.j_seq ?_
  refine Z.j_block ?_
  refine Z.j_seq ?_
  refine Z.j_region ?_
  refine Z.s_val (Z.pv_move rfl) ?_
  refine Z.s_val (Z.pv_eql rfl rfl) ?_
  refine Z.s_val (Z.pv_move rfl) ?_
  refine Z.s_is 26 rfl (show _ = Value.bool false from (Z.bool_f h1)) ?_
  refine Z.s_val (Z.pv_move rfl) ?_
  refine Z.s_val (Z.pv_pick rfl rfl) ?_
  refine Z.s_val (Z.pv_assign rfl) ?_
  refine Z.j_nil ?_
  refine Z.j_then ?_
  refine Z.j_cond rfl (fun hc23 => ?_) (fun hc23 => ?_)
  · try (with_reducible first | replace hc23 := of_decide_eq_true hc23 | replace hc23 := of_decide_eq_false hc23 | replace hc23 := Z.nd_true hc23 | replace hc23 := Z.nd_false hc23 | replace hc23 := Z.nn_true hc23 | replace hc23 := Z.nn_false hc23 | replace hc23 := Z.nb_true hc23 | replace hc23 := Z.nb_false hc23)
    exfalso; exact Bool.noConfusion (h2.symm.trans hc23)
  · try (with_reducible first | replace hc23 := of_decide_eq_true hc23 | replace hc23 := of_decide_eq_false hc23 | replace hc23 := Z.nd_true hc23 | replace hc23 := Z.nd_false hc23 | replace hc23 := Z.nn_true hc23 | replace hc23 := Z.nn_false hc23 | replace hc23 := Z.nb_true hc23 | replace hc23 := Z.nb_false hc23)
    first
    | (exfalso; first | (cases hc23; done) | omega)
    | skip
      refine Z.j_seq ?_
      refine Z.j_draw (vals := [_, _, _, _, _, _, _, _, _, _, _]) 11 (by kernel_rfl) (by kernel_rfl) rfl (by rfl) (Z.heads_cons (Z.hq_val (Z.pv_move (by rfl))) (Z.heads_cons (Z.hq_val (Z.pv_nil (by rfl))) (Z.heads_cons (Z.hq_val (Z.pv_fieldAddr (o' := 0) (by rfl) Try.underlying54 (by rfl) (by exact Try.sizeOf52) (by rfl))) (Z.heads_cons (Z.hq_val (Z.pv_load1 (by rfl) (by repeat (first | with_reducible exact Z.Take.here | apply Z.Take.there)) Try.isAgg52 (by rfl))) (Z.heads_cons (Z.hq_val (Z.pv_lenM (by rfl) Try.underlying52 (by repeat (first | with_reducible exact Z.Take.here | apply Z.Take.there)))) (Z.heads_cons (Z.hq_val (Z.pv_move (by rfl))) (Z.heads_cons (Z.hq_val (Z.pv_nil (by rfl))) (Z.heads_cons (Z.hq_val (Z.pv_fieldAddr (o' := 1) (by rfl) Try.underlying54 (by rfl) (by exact Try.sizeOf3) (by rfl))) (Z.heads_cons (Z.hq_val (Z.pv_load1 (by rfl) (by repeat (first | with_reducible exact Z.Take.here | apply Z.Take.there)) Try.isAgg3 (by rfl))) (Z.heads_cons (Z.hq_val (Z.pv_eql (by rfl) (by rfl))) (Z.heads_cons (Z.hq_val (Z.pv_assign (by rfl))) Z.heads_nil))))))))))) ?_
      refine Z.j_nil ?_
      refine Z.j_then ?_
      refine Z.j_cond rfl (fun hc29 => ?_) (fun hc29 => ?_)
      · try (with_reducible first | replace hc29 := of_decide_eq_true hc29 | replace hc29 := of_decide_eq_false hc29 | replace hc29 := Z.nd_true hc29 | replace hc29 := Z.nd_false hc29 | replace hc29 := Z.nn_true hc29 | replace hc29 := Z.nn_false hc29 | replace hc29 := Z.nb_true hc29 | replace hc29 := Z.nb_false hc29)
        first
        | (exfalso; first | (cases hc29; done) | omega)
        | skip
          refine Z.j_seq ?_
          refine Z.j_region ?_
          refine Z.s_val (Z.pv_assign rfl) ?_
          refine Z.j_nil ?_
          refine Z.j_then ?_
          refine Z.j_ret ?_
          refine Z.j_blk_ret ?_
          refine Z.j_then_ret ?_
          refine Z.j_fold (A := TabP tb (t.sweep now)) (As := [Z.cl tb 54 [.map (some mb), .int .i64 (t.sweep now).most, .int .i64 (t.sweep now).idle, .int .i64 (t.sweep now).abs], Z.MapP mb (Value.int .u64) Sess.e (t.sweep now).m]) (by repeat (first | with_reducible exact Z.Takes.nil | (apply Z.Takes.cons; (repeat (first | with_reducible exact Z.Take.here | apply Z.Take.there))))) (fun _ H => ⟨mb, H⟩) ?_
          refine Z.j_done_ret (Z.rv1 (Z.rv_tmp (t := 8) rfl)) ?_
          exact Z.post_of ⟨rfl, rfl⟩ (by repeat (first | with_reducible exact Z.Takes.nil | (apply Z.Takes.cons; (repeat (first | with_reducible exact Z.Take.here | apply Z.Take.there))))) (by repeat (first | with_reducible exact Z.Drop.nil | apply Z.Drop.cons))
      · try (with_reducible first | replace hc29 := of_decide_eq_true hc29 | replace hc29 := of_decide_eq_false hc29 | replace hc29 := Z.nd_true hc29 | replace hc29 := Z.nd_false hc29 | replace hc29 := Z.nn_true hc29 | replace hc29 := Z.nn_false hc29 | replace hc29 := Z.nb_true hc29 | replace hc29 := Z.nb_false hc29)
        exfalso; exact hc29 h3

set_option maxHeartbeats 4000000 in
set_option maxRecDepth 100000 in
theorem open0_spec (w0 : World) (tb : Nat) (t : Tab) (p d now : Int) (ht : t.ok) (h1 : ¬ d = 0) (h2 : (Z.mget d (t.sweep now).m).isSome = false) (h3 : ¬ ((t.sweep now).m.length : Int) = t.most) : Z.FnD Try.prog w0 10 [.pointer (some ⟨tb, 0, none⟩), .int .i64 p, .int .u64 d, .int .i64 now] [TabP tb t] (.int .i64 (t.openE d now)) [TabP tb (t.openT p d now)] := by
  obtain ⟨u1, u2⟩ := openT_0 (p := p) h1 h2 h3
  rw [u1, u2]
  refine Z.Fn.fnD ?_
  refine Z.fn_enter (n := 49) Try.func10 rfl (by rfl) (by rfl) (fun Fr => ?_)
  refine Z.j_app (by repeat (first | exact Z.App.nil | apply Z.App.cons)) ?_
  refine Z.j_seq ?_
  refine Z.j_region ?_
  refine Z.s_val (Z.pv_assign rfl) ?_
  refine Z.j_nil ?_
  refine Z.j_then ?_
  refine Z.j_seq ?_
  refine Z.j_region ?_
  refine Z.s_val (Z.pv_move rfl) ?_
  refine Z.s_val (Z.pv_move rfl) ?_
  refine Z.s_callD rfl rfl rfl isFn14 (by repeat (first | with_reducible exact Z.Takes.nil | (apply Z.Takes.cons; (repeat (first | with_reducible exact Z.Take.here | apply Z.Take.there))))) (by repeat (first | exact Z.App.nil | apply Z.App.cons)) (sweep_spec _ _ _ _ (by assumption)) ?_
  refine Z.j_nil ?_
  refine Z.j_then ?_
  refine Z.j_seq ?_
  refine Z.j_open (A := TabP tb (t.sweep now)) (by repeat (first | with_reducible exact Z.Take.here | apply Z.Take.there)) (fun _ H => H) (fun mb => ?_)
  show Z.J _ _ _ _ (TabF tb mb (t.sweep now) ++ _) _
  unfold TabF
  refine Z.j_app (by repeat (first | exact Z.App.nil | apply Z.App.cons)) ?_
  refine Z.j_region ?_
  refine Z.s_val (Z.pv_move rfl) ?_
  refine Z.s_val (Z.pv_nil rfl) ?_
  refine Z.s_val (Z.pv_fieldAddr (o' := 0) rfl Try.underlying54 rfl Try.sizeOf52 rfl) ?_
  refine Z.s_val (Z.pv_load1 rfl (by repeat (first | with_reducible exact Z.Take.here | apply Z.Take.there)) Try.isAgg52 (by rfl)) ?_
  refine Z.s_val (Z.pv_move rfl) ?_
  refine Z.s_val (Z.pv_lookupOkZ (k := d) (venc := Sess.e) (m := (t.sweep now).m) Sess.z rfl rfl Try.underlying52 kU64 Try.zeroValue56 (by repeat (first | with_reducible exact Z.Take.here | apply Z.Take.there))) ?_
  refine Z.s_val (Z.pv_move rfl) ?_
  refine Z.s_val (Z.pv_extract rfl rfl) ?_
  refine Z.s_val (Z.pv_extract rfl rfl) ?_
  refine Z.s_alloc Try.zeroValue56 (fun b9 => ?_)
  refine Z.s_storeA rfl rfl Try.sizeOf56 rfl (by repeat (first | with_reducible exact Z.Upd.here | apply Z.Upd.there)) (by rfl) ?_
  refine Z.s_val (Z.pv_assign rfl) ?_
  refine Z.j_nil ?_
  refine Z.j_then ?_
  refine Z.j_seq ?_
  refine Z.j_block ?_
  refine Z.j_seq ?_
  refine Z.j_region ?_
  refine Z.s_val (Z.pv_move rfl) ?_
  refine Z.s_val (Z.pv_eql rfl rfl) ?_
  refine Z.s_val (Z.pv_move rfl) ?_
  refine Z.s_is 26 rfl (show _ = Value.bool false from (Z.bool_f h1)) ?_
  refine Z.s_val (Z.pv_move rfl) ?_
  refine Z.s_val (Z.pv_pick rfl rfl) ?_
  refine Z.s_val (Z.pv_assign rfl) ?_
  refine Z.j_nil ?_
  refine Z.j_then ?_
  refine Z.j_cond rfl (fun hc23 => ?_) (fun hc23 => ?_)
  · try (with_reducible first | replace hc23 := of_decide_eq_true hc23 | replace hc23 := of_decide_eq_false hc23 | replace hc23 := Z.nd_true hc23 | replace hc23 := Z.nd_false hc23 | replace hc23 := Z.nn_true hc23 | replace hc23 := Z.nn_false hc23 | replace hc23 := Z.nb_true hc23 | replace hc23 := Z.nb_false hc23)
    exfalso; exact Bool.noConfusion (h2.symm.trans hc23)
  · try (with_reducible first | replace hc23 := of_decide_eq_true hc23 | replace hc23 := of_decide_eq_false hc23 | replace hc23 := Z.nd_true hc23 | replace hc23 := Z.nd_false hc23 | replace hc23 := Z.nn_true hc23 | replace hc23 := Z.nn_false hc23 | replace hc23 := Z.nb_true hc23 | replace hc23 := Z.nb_false hc23)
    first
    | (exfalso; first | (cases hc23; done) | omega)
    | skip
      refine Z.j_seq ?_
      refine Z.j_draw (vals := [_, _, _, _, _, _, _, _, _, _, _]) 11 (by kernel_rfl) (by kernel_rfl) rfl (by rfl) (Z.heads_cons (Z.hq_val (Z.pv_move (by rfl))) (Z.heads_cons (Z.hq_val (Z.pv_nil (by rfl))) (Z.heads_cons (Z.hq_val (Z.pv_fieldAddr (o' := 0) (by rfl) Try.underlying54 (by rfl) (by exact Try.sizeOf52) (by rfl))) (Z.heads_cons (Z.hq_val (Z.pv_load1 (by rfl) (by repeat (first | with_reducible exact Z.Take.here | apply Z.Take.there)) Try.isAgg52 (by rfl))) (Z.heads_cons (Z.hq_val (Z.pv_lenM (by rfl) Try.underlying52 (by repeat (first | with_reducible exact Z.Take.here | apply Z.Take.there)))) (Z.heads_cons (Z.hq_val (Z.pv_move (by rfl))) (Z.heads_cons (Z.hq_val (Z.pv_nil (by rfl))) (Z.heads_cons (Z.hq_val (Z.pv_fieldAddr (o' := 1) (by rfl) Try.underlying54 (by rfl) (by exact Try.sizeOf3) (by rfl))) (Z.heads_cons (Z.hq_val (Z.pv_load1 (by rfl) (by repeat (first | with_reducible exact Z.Take.here | apply Z.Take.there)) Try.isAgg3 (by rfl))) (Z.heads_cons (Z.hq_val (Z.pv_eql (by rfl) (by rfl))) (Z.heads_cons (Z.hq_val (Z.pv_assign (by rfl))) Z.heads_nil))))))))))) ?_
      refine Z.j_nil ?_
      refine Z.j_then ?_
      refine Z.j_cond rfl (fun hc29 => ?_) (fun hc29 => ?_)
      · try (with_reducible first | replace hc29 := of_decide_eq_true hc29 | replace hc29 := of_decide_eq_false hc29 | replace hc29 := Z.nd_true hc29 | replace hc29 := Z.nd_false hc29 | replace hc29 := Z.nn_true hc29 | replace hc29 := Z.nn_false hc29 | replace hc29 := Z.nb_true hc29 | replace hc29 := Z.nb_false hc29)
        exfalso; exact h3 hc29
      · try (with_reducible first | replace hc29 := of_decide_eq_true hc29 | replace hc29 := of_decide_eq_false hc29 | replace hc29 := Z.nd_true hc29 | replace hc29 := Z.nd_false hc29 | replace hc29 := Z.nn_true hc29 | replace hc29 := Z.nn_false hc29 | replace hc29 := Z.nb_true hc29 | replace hc29 := Z.nb_false hc29)
        first
        | (exfalso; first | (cases hc29; done) | omega)
        | skip
          refine Z.j_skip ?_
          refine Z.j_blk ?_
          refine Z.j_then ?_
          refine Z.j_seq ?_
          refine Z.j_region ?_
          refine Z.s_val (Z.pv_move rfl) ?_
          refine Z.s_val (Z.pv_nil rfl) ?_
          refine Z.s_val (Z.pv_fieldAddr (o' := 0) rfl Try.underlying54 rfl Try.sizeOf52 rfl) ?_
          refine Z.s_val (Z.pv_load1 rfl (by repeat (first | with_reducible exact Z.Take.here | apply Z.Take.there)) Try.isAgg52 (by rfl)) ?_
          refine Z.s_val (Z.pv_move rfl) ?_
          refine Z.s_val (Z.pv_move rfl) ?_
          refine Z.s_val (Z.pv_move rfl) ?_
          refine Z.s_val (Z.pv_move rfl) ?_
          refine Z.s_val (Z.pv_build rfl Try.zeroValue56 pl56 rfl) ?_
          refine Z.s_mapUpdate (k := d) (v := (⟨p, now, now⟩ : Sess)) rfl rfl rfl Try.underlying52 kU64 (by repeat (first | with_reducible exact Z.Take.here | apply Z.Take.there)) ?_
          refine Z.j_nil ?_
          refine Z.j_then ?_
          refine Z.j_seq ?_
          refine Z.j_region ?_
          refine Z.s_val (Z.pv_assign rfl) ?_
          refine Z.j_nil ?_
          refine Z.j_then ?_
          refine Z.j_ret ?_
          refine Z.j_fold (A := TabP tb { t with m := Z.mput d ⟨p, now, now⟩ (t.sweep now).m }) (As := [Z.cl tb 54 [.map (some mb), .int .i64 (t.sweep now).most, .int .i64 (t.sweep now).idle, .int .i64 (t.sweep now).abs], Z.MapP mb (Value.int .u64) Sess.e (Z.mput d ⟨p, now, now⟩ (t.sweep now).m)]) (by repeat (first | with_reducible exact Z.Takes.nil | (apply Z.Takes.cons; (repeat (first | with_reducible exact Z.Take.here | apply Z.Take.there))))) (fun _ H => ⟨mb, H⟩) ?_
          refine Z.j_done_ret (Z.rv1 (Z.rv_tmp (t := 8) rfl)) ?_
          exact Z.post_of ⟨rfl, rfl⟩ (by repeat (first | with_reducible exact Z.Takes.nil | (apply Z.Takes.cons; (repeat (first | with_reducible exact Z.Take.here | apply Z.Take.there))))) (by repeat (first | with_reducible exact Z.Drop.nil | apply Z.Drop.cons))


theorem open_spec (w0 : World) (tb : Nat) (t : Tab) (p d now : Int) (ht : t.ok)  : Z.FnD Try.prog w0 10 [.pointer (some ⟨tb, 0, none⟩), .int .i64 p, .int .u64 d, .int .i64 now] [TabP tb t] (.int .i64 (t.openE d now)) [TabP tb (t.openT p d now)] := by
  by_cases h1 : d = 0
  · exact open41_spec w0 tb t p d now ht (.inl h1)
  · cases h2 : (Z.mget d (t.sweep now).m).isSome with
    | true => exact open41_spec w0 tb t p d now ht (.inr h2)
    | false =>
      by_cases h3 : ((t.sweep now).m.length : Int) = t.most
      · exact open3_spec w0 tb t p d now ht h1 h2 h3
      · exact open0_spec w0 tb t p d now ht h1 h2 h3

set_option maxHeartbeats 4000000 in
set_option maxRecDepth 100000 in
theorem new_spec (w0 : World) (most idle abs : Int) (h1 : 1 ≤ most) (h2 : most ≤ 64) (h3 : spanB idle = true) (h4 : spanB abs = true) : Z.Fn Try.prog w0 9 [.int .i64 most, .int .i64 idle, .int .i64 abs] [] (fun v Q => ∃ tb, v = .tuple #[.pointer (some ⟨tb, 0, none⟩), .int .i64 0] ∧ Q = [TabP tb ⟨[], most, idle, abs⟩]) := by
  refine Z.fn_enter (n := 30) Try.func9 rfl (by rfl) (by rfl) (fun Fr => ?_)
  refine Z.j_app (by repeat (first | exact Z.App.nil | apply Z.App.cons)) ?_
  refine Z.j_seq ?_
  refine Z.j_region ?_
  refine Z.s_val (Z.pv_assign rfl) ?_
  refine Z.s_val (Z.pv_assign rfl) ?_
  refine Z.j_nil ?_
  refine Z.j_then ?_
  refine Z.j_seq ?_
  refine Z.j_seq ?_
  refine Z.j_region ?_
  refine Z.s_val (Z.pv_move rfl) ?_
  refine Z.s_val (Z.pv_lss rfl rfl) ?_
  refine Z.s_val (Z.pv_move rfl) ?_
  refine Z.s_is 10 rfl (show _ = Value.bool false from (Z.bool_f (by omega))) ?_
  refine Z.s_val (Z.pv_move rfl) ?_
  refine Z.s_val (Z.pv_gtr rfl rfl) ?_
  refine Z.s_val (Z.pv_pick rfl rfl) ?_
  refine Z.s_val (Z.pv_move rfl) ?_
  refine Z.s_is 14 rfl (show _ = Value.bool false from (Z.bool_f (by omega))) ?_
  refine Z.s_val (Z.pv_move rfl) ?_
  refine Z.s_callD rfl rfl rfl isFn16 (by repeat (first | with_reducible exact Z.Takes.nil | (apply Z.Takes.cons; (repeat (first | with_reducible exact Z.Take.here | apply Z.Take.there))))) (by repeat (first | exact Z.App.nil | apply Z.App.cons)) (span_spec _ _) ?_
  refine Z.s_val (Z.pv_not rfl) ?_
  refine Z.s_val (Z.pv_pick rfl rfl) ?_
  refine Z.s_val (Z.pv_move rfl) ?_
  refine Z.s_is 19 rfl (show _ = Value.bool false from (by rw [h3]; rfl)) ?_
  refine Z.s_val (Z.pv_move rfl) ?_
  refine Z.s_callD rfl rfl rfl isFn16 (by repeat (first | with_reducible exact Z.Takes.nil | (apply Z.Takes.cons; (repeat (first | with_reducible exact Z.Take.here | apply Z.Take.there))))) (by repeat (first | exact Z.App.nil | apply Z.App.cons)) (span_spec _ _) ?_
  refine Z.s_val (Z.pv_not rfl) ?_
  refine Z.s_val (Z.pv_pick rfl rfl) ?_
  refine Z.j_nil ?_
  refine Z.j_then ?_
  refine Z.j_cond rfl (fun hc23 => ?_) (fun hc23 => ?_)
  · try (with_reducible first | replace hc23 := of_decide_eq_true hc23 | replace hc23 := of_decide_eq_false hc23 | replace hc23 := Z.nd_true hc23 | replace hc23 := Z.nd_false hc23 | replace hc23 := Z.nn_true hc23 | replace hc23 := Z.nn_false hc23 | replace hc23 := Z.nb_true hc23 | replace hc23 := Z.nb_false hc23)
    exfalso; rw [h4] at hc23; cases hc23
  · try (with_reducible first | replace hc23 := of_decide_eq_true hc23 | replace hc23 := of_decide_eq_false hc23 | replace hc23 := Z.nd_true hc23 | replace hc23 := Z.nd_false hc23 | replace hc23 := Z.nn_true hc23 | replace hc23 := Z.nn_false hc23 | replace hc23 := Z.nb_true hc23 | replace hc23 := Z.nb_false hc23)
    first
    | (exfalso; first | (cases hc23; done) | omega)
    | skip
      refine Z.j_skip ?_
      refine Z.j_then ?_
      refine Z.j_seq ?_
      refine Z.j_region ?_
      refine Z.s_makeMap (Value.int .u64) Sess.e (fun b24 => ?_)
      refine Z.s_val (Z.pv_move rfl) ?_
      refine Z.s_val (Z.pv_move rfl) ?_
      refine Z.s_val (Z.pv_move rfl) ?_
      refine Z.s_val (Z.pv_build rfl Try.zeroValue54 pl54 rfl) ?_
      refine Z.s_box rfl (fun b29 => ?_)
      refine Z.s_val (Z.pv_assign rfl) ?_
      refine Z.s_val (Z.pv_assign rfl) ?_
      refine Z.j_nil ?_
      refine Z.j_then ?_
      refine Z.j_ret ?_
      refine Z.j_fold (A := TabP b29 ⟨[], most, idle, abs⟩) (As := TabF b29 b24 ⟨[], most, idle, abs⟩) (by repeat (first | with_reducible exact Z.Takes.nil | (apply Z.Takes.cons; (repeat (first | with_reducible exact Z.Take.here | apply Z.Take.there))))) (fun _ H => ⟨b24, H⟩) ?_
      refine Z.j_done_ret (Z.rv2 (Z.rv_tmp (t := 6) rfl) (Z.rv_tmp (t := 7) rfl)) ?_
      exact Z.post_of ⟨b29, rfl, rfl⟩ (by repeat (first | with_reducible exact Z.Takes.nil | (apply Z.Takes.cons; (repeat (first | with_reducible exact Z.Take.here | apply Z.Take.there))))) (by repeat (first | with_reducible exact Z.Drop.nil | apply Z.Drop.cons))

set_option maxHeartbeats 4000000 in
set_option maxRecDepth 100000 in
theorem newbad_spec (w0 : World) (most idle abs : Int) (h1 : most < 1) : Z.FnD Try.prog w0 9 [.int .i64 most, .int .i64 idle, .int .i64 abs] [] (.tuple #[.pointer none, .int .i64 1]) [] := by
  refine Z.Fn.fnD ?_
  refine Z.fn_enter (n := 30) Try.func9 rfl (by rfl) (by rfl) (fun Fr => ?_)
  refine Z.j_app (by repeat (first | exact Z.App.nil | apply Z.App.cons)) ?_
  refine Z.j_seq ?_
  refine Z.j_region ?_
  refine Z.s_val (Z.pv_assign rfl) ?_
  refine Z.s_val (Z.pv_assign rfl) ?_
  refine Z.j_nil ?_
  refine Z.j_then ?_
  refine Z.j_seq ?_
  refine Z.j_seq ?_
  refine Z.j_region ?_
  refine Z.s_val (Z.pv_move rfl) ?_
  refine Z.s_val (Z.pv_lss rfl rfl) ?_
  refine Z.s_val (Z.pv_move rfl) ?_
  refine Z.s_is 10 rfl (show _ = Value.bool true from (Z.bool_t (by omega))) ?_
  refine Z.s_skip ?_
  refine Z.s_skip ?_
  refine Z.s_val (Z.pv_pick rfl rfl) ?_
  refine Z.s_val (Z.pv_move rfl) ?_
  refine Z.s_is 14 rfl (show _ = Value.bool true from rfl) ?_
  refine Z.s_skip ?_
  refine Z.s_skip ?_
  refine Z.s_skip ?_
  refine Z.s_val (Z.pv_pick rfl rfl) ?_
  refine Z.s_val (Z.pv_move rfl) ?_
  refine Z.s_is 19 rfl (show _ = Value.bool true from rfl) ?_
  refine Z.s_skip ?_
  refine Z.s_skip ?_
  refine Z.s_skip ?_
  refine Z.s_val (Z.pv_pick rfl rfl) ?_
  refine Z.j_nil ?_
  refine Z.j_then ?_
  refine Z.j_cond rfl (fun hc23 => ?_) (fun hc23 => ?_)
  · try (with_reducible first | replace hc23 := of_decide_eq_true hc23 | replace hc23 := of_decide_eq_false hc23 | replace hc23 := Z.nd_true hc23 | replace hc23 := Z.nd_false hc23 | replace hc23 := Z.nn_true hc23 | replace hc23 := Z.nn_false hc23 | replace hc23 := Z.nb_true hc23 | replace hc23 := Z.nb_false hc23)
    first
    | (exfalso; first | (cases hc23; done) | omega)
    | skip
      refine Z.j_seq ?_
      refine Z.j_region ?_
      refine Z.s_val (Z.pv_assign rfl) ?_
      refine Z.s_val (Z.pv_assign rfl) ?_
      refine Z.j_nil ?_
      refine Z.j_then ?_
      refine Z.j_ret ?_
      refine Z.j_then_ret ?_
      refine Z.j_done_ret (Z.rv2 (Z.rv_tmp (t := 6) rfl) (Z.rv_tmp (t := 7) rfl)) ?_
      exact Z.post_of ⟨rfl, rfl⟩ (by repeat (first | with_reducible exact Z.Takes.nil | (apply Z.Takes.cons; (repeat (first | with_reducible exact Z.Take.here | apply Z.Take.there))))) (by repeat (first | with_reducible exact Z.Drop.nil | apply Z.Drop.cons))
  · exfalso; first | (cases hc23; done) | (simp at hc23; done) | (simp at hc23; omega)

end Go.Proofs.Ytjilnmjjehkidaa
