/- Segtree: the arena's and the aggregates' walks. -/
import Derived.Test.YtggndcaehjdklaaRows
import Derived.Test.YtggndcaehjdklaaS0
import Derived.IntWalk
import Derived.KernelRfl
namespace Go.Proofs.Ytggndcaehjdklaa
open Go Go.RowKit
theorem isFn4 : Z.IsFn Try.prog 4 := Z.isFn_of Try.func4 (by rfl) (by decide +kernel)
theorem isFn5 : Z.IsFn Try.prog 5 := Z.isFn_of Try.func5 (by rfl) (by decide +kernel)
theorem isFn6 : Z.IsFn Try.prog 6 := Z.isFn_of Try.func6 (by rfl) (by decide +kernel)
theorem isFn7 : Z.IsFn Try.prog 7 := Z.isFn_of Try.func7 (by rfl) (by decide +kernel)
theorem isFn8 : Z.IsFn Try.prog 8 := Z.isFn_of Try.func8 (by rfl) (by decide +kernel)
theorem isFn9 : Z.IsFn Try.prog 9 := Z.isFn_of Try.func9 (by rfl) (by decide +kernel)
theorem isFn10 : Z.IsFn Try.prog 10 := Z.isFn_of Try.func10 (by rfl) (by decide +kernel)
theorem isFn11 : Z.IsFn Try.prog 11 := Z.isFn_of Try.func11 (by rfl) (by decide +kernel)
theorem isFn12 : Z.IsFn Try.prog 12 := Z.isFn_of Try.func12 (by rfl) (by decide +kernel)
theorem isFn13 : Z.IsFn Try.prog 13 := Z.isFn_of Try.func13 (by rfl) (by decide +kernel)
theorem isFn14 : Z.IsFn Try.prog 14 := Z.isFn_of Try.func14 (by rfl) (by decide +kernel)
theorem isFn15 : Z.IsFn Try.prog 15 := Z.isFn_of Try.func15 (by rfl) (by decide +kernel)
theorem isFn16 : Z.IsFn Try.prog 16 := Z.isFn_of Try.func16 (by rfl) (by decide +kernel)
theorem isFn17 : Z.IsFn Try.prog 17 := Z.isFn_of Try.func17 (by rfl) (by decide +kernel)
theorem isFn18 : Z.IsFn Try.prog 18 := Z.isFn_of Try.func18 (by rfl) (by decide +kernel)
theorem isFn19 : Z.IsFn Try.prog 19 := Z.isFn_of Try.func19 (by rfl) (by decide +kernel)
theorem isFn20 : Z.IsFn Try.prog 20 := Z.isFn_of Try.func20 (by rfl) (by decide +kernel)
theorem isFn21 : Z.IsFn Try.prog 21 := Z.isFn_of Try.func21 (by rfl) (by decide +kernel)
theorem isFn22 : Z.IsFn Try.prog 22 := Z.isFn_of Try.func22 (by rfl) (by decide +kernel)
theorem isFn23 : Z.IsFn Try.prog 23 := Z.isFn_of Try.func23 (by rfl) (by decide +kernel)
theorem isFn24 : Z.IsFn Try.prog 24 := Z.isFn_of Try.func24 (by rfl) (by decide +kernel)
theorem isFn25 : Z.IsFn Try.prog 25 := Z.isFn_of Try.func25 (by rfl) (by decide +kernel)
theorem isFn26 : Z.IsFn Try.prog 26 := Z.isFn_of Try.func26 (by rfl) (by decide +kernel)
theorem isFn27 : Z.IsFn Try.prog 27 := Z.isFn_of Try.func27 (by rfl) (by decide +kernel)
theorem isFn28 : Z.IsFn Try.prog 28 := Z.isFn_of Try.func28 (by rfl) (by decide +kernel)
theorem isFn29 : Z.IsFn Try.prog 29 := Z.isFn_of Try.func29 (by rfl) (by decide +kernel)
theorem isFn30 : Z.IsFn Try.prog 30 := Z.isFn_of Try.func30 (by rfl) (by decide +kernel)
theorem isFn31 : Z.IsFn Try.prog 31 := Z.isFn_of Try.func31 (by rfl) (by decide +kernel)
theorem isFn32 : Z.IsFn Try.prog 32 := Z.isFn_of Try.func32 (by rfl) (by decide +kernel)
theorem isFn33 : Z.IsFn Try.prog 33 := Z.isFn_of Try.func33 (by rfl) (by decide +kernel)
theorem isFn34 : Z.IsFn Try.prog 34 := Z.isFn_of Try.func34 (by rfl) (by decide +kernel)
theorem isFn35 : Z.IsFn Try.prog 35 := Z.isFn_of Try.func35 (by rfl) (by decide +kernel)
theorem isFn36 : Z.IsFn Try.prog 36 := Z.isFn_of Try.func36 (by rfl) (by decide +kernel)
theorem isFn37 : Z.IsFn Try.prog 37 := Z.isFn_of Try.func37 (by rfl) (by decide +kernel)
theorem isFn38 : Z.IsFn Try.prog 38 := Z.isFn_of Try.func38 (by rfl) (by decide +kernel)
theorem isFn39 : Z.IsFn Try.prog 39 := Z.isFn_of Try.func39 (by rfl) (by decide +kernel)
theorem isFn40 : Z.IsFn Try.prog 40 := Z.isFn_of Try.func40 (by rfl) (by decide +kernel)

theorem pl41 : Z.Pl Try.prog 41 [(0, 1), (1, 1), (2, 1), (3, 1)] := ⟨_, Try.underlying41, fun w => by simp [Try.sizeOf2, Try.sizeOf3]⟩
theorem pl69 : Z.Pl Try.prog 69 [(0, 1), (1, 1), (2, 4), (6, 1)] := ⟨_, Try.underlying69, fun w => by simp [Try.sizeOf4, Try.sizeOf21, Try.sizeOf41]⟩
theorem pl66 : Z.Pl Try.prog 66 [(0, 1), (1, 1)] := ⟨_, Try.underlying66, fun w => by simp [Try.sizeOf3, Try.sizeOf64]⟩
theorem pl52 : Z.Pl Try.prog 52 [(0, 1), (1, 1)] := ⟨_, Try.underlying52, fun w => by simp [Try.sizeOf21, Try.sizeOf48]⟩
theorem pl61 : Z.Pl Try.prog 61 [(0, 1), (1, 1)] := ⟨_, Try.underlying61, fun w => by simp [Try.sizeOf3, Try.sizeOf30]⟩
theorem pl44 : Z.Pl Try.prog 44 [(0, 1), (1, 1)] := ⟨_, Try.underlying44, fun w => by simp [Try.sizeOf30]⟩

set_option maxHeartbeats 4000000 in
set_option maxRecDepth 100000 in
theorem one_spec (w0 : World) (v : Int) : Z.FnD Try.prog w0 18 [.int .i64 v] [] (.agg #[.int .i64 1, .int .i64 v, .int .i64 v, .int .i64 v]) [] := by
  refine Z.Fn.fnD ?_
  refine Z.fn_enter (n := 7) Try.func18 rfl (by rfl) (by rfl) (fun Fr => ?_)
  refine Z.j_app (by repeat (first | exact Z.App.nil | apply Z.App.cons)) ?_
  refine Z.j_seq ?_
  refine Z.j_region ?_
  refine Z.s_alloc Try.zeroValue41 (fun b2 => ?_)
  refine Z.j_nil ?_
  refine Z.j_then ?_
  refine Z.j_seq ?_
  refine Z.j_region ?_
  refine Z.s_val (Z.pv_move rfl) ?_
  refine Z.s_val (Z.pv_move rfl) ?_
  refine Z.s_val (Z.pv_move rfl) ?_
  refine Z.s_val (Z.pv_build rfl Try.zeroValue41 pl41 rfl) ?_
  refine Z.s_storeA rfl rfl Try.sizeOf41 rfl (by repeat (first | with_reducible exact Z.Upd.here | apply Z.Upd.there)) (by rfl) ?_
  refine Z.j_nil ?_
  refine Z.j_then ?_
  refine Z.j_ret ?_
  refine Z.j_done_ret (Z.rv1 (Z.rv_cellA (x := 2) (T := 41) rfl (by repeat (first | with_reducible exact Z.Take.here | apply Z.Take.there)) Try.isAgg41 Try.sizeOf41 (by rfl))) ?_
  exact Z.post_of ⟨rfl, rfl⟩ (by repeat (first | with_reducible exact Z.Takes.nil | (apply Z.Takes.cons; (repeat (first | with_reducible exact Z.Take.here | apply Z.Take.there))))) (by repeat (first | with_reducible exact Z.Drop.nil | apply Z.Drop.cons))

set_option maxHeartbeats 4000000 in
set_option maxRecDepth 100000 in
theorem merge_spec (w0 : World) (a b : Agg) : Z.FnD Try.prog w0 36 [.agg a.l.toArray, .agg b.l.toArray] [] (.agg (a.merge b).l.toArray) [] := by
  refine Z.Fn.fnD ?_
  refine Z.fn_enter (n := 46) Try.func36 rfl (by rfl) (by rfl) (fun Fr => ?_)
  refine Z.j_app (by repeat (first | exact Z.App.nil | apply Z.App.cons)) ?_
  refine Z.j_seq ?_
  refine Z.j_region ?_
  refine Z.s_box rfl (fun b2 => ?_)
  refine Z.s_box rfl (fun b3 => ?_)
  refine Z.s_alloc Try.zeroValue41 (fun b4 => ?_)
  refine Z.j_nil ?_
  refine Z.j_then ?_
  refine Z.j_seq ?_
  refine Z.j_block ?_
  refine Z.j_seq ?_
  refine Z.j_region ?_
  refine Z.s_val (Z.pv_fieldAddr (o' := 0) rfl Try.underlying41 rfl Try.sizeOf3 rfl) ?_
  refine Z.s_val (Z.pv_load1 rfl (by repeat (first | with_reducible exact Z.Take.here | apply Z.Take.there)) Try.isAgg3 (by rfl)) ?_
  refine Z.s_val (Z.pv_lss rfl rfl) ?_
  refine Z.s_val (Z.pv_move rfl) ?_
  refine Z.s_split 9 rfl (fun hg9 => ?_) (fun hg9 => ?_)
  · try (with_reducible first | replace hg9 := of_decide_eq_true hg9 | replace hg9 := of_decide_eq_false hg9 | replace hg9 := Z.nd_true hg9 | replace hg9 := Z.nd_false hg9 | replace hg9 := Z.nn_true hg9 | replace hg9 := Z.nn_false hg9 | replace hg9 := Z.nb_true hg9 | replace hg9 := Z.nb_false hg9)
    first
    | (exfalso; first | (cases hg9; done) | omega)
    | skip
      refine Z.s_val (Z.pv_fieldAddr (o' := 0) rfl Try.underlying41 rfl Try.sizeOf3 rfl) ?_
      refine Z.s_val (Z.pv_load1 rfl (by repeat (first | with_reducible exact Z.Take.here | apply Z.Take.there)) Try.isAgg3 (by rfl)) ?_
      refine Z.s_val (Z.pv_lss rfl rfl) ?_
      refine Z.s_val (Z.pv_pick rfl rfl) ?_
      refine Z.s_val (Z.pv_assign rfl) ?_
      refine Z.j_nil ?_
      refine Z.j_then ?_
      refine Z.j_cond rfl (fun hc5 => ?_) (fun hc5 => ?_)
      · try (with_reducible first | replace hc5 := of_decide_eq_true hc5 | replace hc5 := of_decide_eq_false hc5 | replace hc5 := Z.nd_true hc5 | replace hc5 := Z.nd_false hc5 | replace hc5 := Z.nn_true hc5 | replace hc5 := Z.nn_false hc5 | replace hc5 := Z.nb_true hc5 | replace hc5 := Z.nb_false hc5)
        first
        | (exfalso; first | (cases hc5; done) | omega)
        | skip
          refine Z.j_seq ?_
          refine Z.j_region ?_
          refine Z.s_val (Z.pv_build rfl Try.zeroValue41 pl41 rfl) ?_
          refine Z.s_storeA rfl rfl Try.sizeOf41 rfl (by repeat (first | with_reducible exact Z.Upd.here | apply Z.Upd.there)) (by rfl) ?_
          refine Z.j_nil ?_
          refine Z.j_then ?_
          refine Z.j_ret ?_
          refine Z.j_blk_ret ?_
          refine Z.j_then_ret ?_
          refine Z.j_done_ret (Z.rv1 (Z.rv_cellA (x := 4) (T := 41) rfl (by repeat (first | with_reducible exact Z.Take.here | apply Z.Take.there)) Try.isAgg41 Try.sizeOf41 (by rfl))) ?_
          exact Z.post_of ⟨by first | (rw [merge_zz (by omega) (by omega)]; rfl) | (rw [merge_zb (by omega) (by omega)]; rfl) | (rw [merge_az (by omega) (by omega)]; rfl) | (rw [merge_ab (by omega) (by omega)]; rfl), rfl⟩ (by repeat (first | with_reducible exact Z.Takes.nil | (apply Z.Takes.cons; (repeat (first | with_reducible exact Z.Take.here | apply Z.Take.there))))) (by repeat (first | with_reducible exact Z.Drop.nil | apply Z.Drop.cons))
      · try (with_reducible first | replace hc5 := of_decide_eq_true hc5 | replace hc5 := of_decide_eq_false hc5 | replace hc5 := Z.nd_true hc5 | replace hc5 := Z.nd_false hc5 | replace hc5 := Z.nn_true hc5 | replace hc5 := Z.nn_false hc5 | replace hc5 := Z.nb_true hc5 | replace hc5 := Z.nb_false hc5)
        first
        | (exfalso; first | (cases hc5; done) | omega)
        | skip
          refine Z.j_seq ?_
          refine Z.j_region ?_
          refine Z.s_val (Z.pv_fieldAddr (o' := 0) rfl Try.underlying41 rfl Try.sizeOf3 rfl) ?_
          refine Z.s_val (Z.pv_load1 rfl (by repeat (first | with_reducible exact Z.Take.here | apply Z.Take.there)) Try.isAgg3 (by rfl)) ?_
          refine Z.s_val (Z.pv_lss rfl rfl) ?_
          refine Z.s_val (Z.pv_assign rfl) ?_
          refine Z.j_nil ?_
          refine Z.j_then ?_
          refine Z.j_cond rfl (fun hc15 => ?_) (fun hc15 => ?_)
          · try (with_reducible first | replace hc15 := of_decide_eq_true hc15 | replace hc15 := of_decide_eq_false hc15 | replace hc15 := Z.nd_true hc15 | replace hc15 := Z.nd_false hc15 | replace hc15 := Z.nn_true hc15 | replace hc15 := Z.nn_false hc15 | replace hc15 := Z.nb_true hc15 | replace hc15 := Z.nb_false hc15)
            first
            | (exfalso; first | (cases hc15; done) | omega)
            | skip
              refine Z.j_seq ?_
              refine Z.j_region ?_
              refine Z.s_val (Z.pv_loadA rfl (by repeat (first | with_reducible exact Z.Take.here | apply Z.Take.there)) Try.isAgg41 Try.sizeOf41 (by rfl)) ?_
              refine Z.s_storeA rfl rfl Try.sizeOf41 rfl (by repeat (first | with_reducible exact Z.Upd.here | apply Z.Upd.there)) (by rfl) ?_
              refine Z.j_nil ?_
              refine Z.j_then ?_
              refine Z.j_ret ?_
              refine Z.j_blk_ret ?_
              refine Z.j_then_ret ?_
              refine Z.j_done_ret (Z.rv1 (Z.rv_cellA (x := 4) (T := 41) rfl (by repeat (first | with_reducible exact Z.Take.here | apply Z.Take.there)) Try.isAgg41 Try.sizeOf41 (by rfl))) ?_
              exact Z.post_of ⟨by first | (rw [merge_zz (by omega) (by omega)]; rfl) | (rw [merge_zb (by omega) (by omega)]; rfl) | (rw [merge_az (by omega) (by omega)]; rfl) | (rw [merge_ab (by omega) (by omega)]; rfl), rfl⟩ (by repeat (first | with_reducible exact Z.Takes.nil | (apply Z.Takes.cons; (repeat (first | with_reducible exact Z.Take.here | apply Z.Take.there))))) (by repeat (first | with_reducible exact Z.Drop.nil | apply Z.Drop.cons))
          · try (with_reducible first | replace hc15 := of_decide_eq_true hc15 | replace hc15 := of_decide_eq_false hc15 | replace hc15 := Z.nd_true hc15 | replace hc15 := Z.nd_false hc15 | replace hc15 := Z.nn_true hc15 | replace hc15 := Z.nn_false hc15 | replace hc15 := Z.nb_true hc15 | replace hc15 := Z.nb_false hc15)
            first
            | (exfalso; first | (cases hc15; done) | omega)
            | skip
              refine Z.j_seq ?_
              refine Z.j_region ?_
              refine Z.s_val (Z.pv_fieldAddr (o' := 0) rfl Try.underlying41 rfl Try.sizeOf3 rfl) ?_
              refine Z.s_val (Z.pv_load1 rfl (by repeat (first | with_reducible exact Z.Take.here | apply Z.Take.there)) Try.isAgg3 (by rfl)) ?_
              refine Z.s_val (Z.pv_lss rfl rfl) ?_
              refine Z.s_val (Z.pv_assign rfl) ?_
              refine Z.j_nil ?_
              refine Z.j_then ?_
              refine Z.j_cond rfl (fun hc20 => ?_) (fun hc20 => ?_)
              · try (with_reducible first | replace hc20 := of_decide_eq_true hc20 | replace hc20 := of_decide_eq_false hc20 | replace hc20 := Z.nd_true hc20 | replace hc20 := Z.nd_false hc20 | replace hc20 := Z.nn_true hc20 | replace hc20 := Z.nn_false hc20 | replace hc20 := Z.nb_true hc20 | replace hc20 := Z.nb_false hc20)
                first
                | (exfalso; first | (cases hc20; done) | omega)
                | skip
                  refine Z.j_seq ?_
                  refine Z.j_region ?_
                  refine Z.s_val (Z.pv_loadA rfl (by repeat (first | with_reducible exact Z.Take.here | apply Z.Take.there)) Try.isAgg41 Try.sizeOf41 (by rfl)) ?_
                  refine Z.s_storeA rfl rfl Try.sizeOf41 rfl (by repeat (first | with_reducible exact Z.Upd.here | apply Z.Upd.there)) (by rfl) ?_
                  refine Z.j_nil ?_
                  refine Z.j_then ?_
                  refine Z.j_ret ?_
                  refine Z.j_blk_ret ?_
                  refine Z.j_then_ret ?_
                  refine Z.j_done_ret (Z.rv1 (Z.rv_cellA (x := 4) (T := 41) rfl (by repeat (first | with_reducible exact Z.Take.here | apply Z.Take.there)) Try.isAgg41 Try.sizeOf41 (by rfl))) ?_
                  exact Z.post_of ⟨by first | (rw [merge_zz (by omega) (by omega)]; rfl) | (rw [merge_zb (by omega) (by omega)]; rfl) | (rw [merge_az (by omega) (by omega)]; rfl) | (rw [merge_ab (by omega) (by omega)]; rfl), rfl⟩ (by repeat (first | with_reducible exact Z.Takes.nil | (apply Z.Takes.cons; (repeat (first | with_reducible exact Z.Take.here | apply Z.Take.there))))) (by repeat (first | with_reducible exact Z.Drop.nil | apply Z.Drop.cons))
              · try (with_reducible first | replace hc20 := of_decide_eq_true hc20 | replace hc20 := of_decide_eq_false hc20 | replace hc20 := Z.nd_true hc20 | replace hc20 := Z.nd_false hc20 | replace hc20 := Z.nn_true hc20 | replace hc20 := Z.nn_false hc20 | replace hc20 := Z.nb_true hc20 | replace hc20 := Z.nb_false hc20)
                first
                | (exfalso; first | (cases hc20; done) | omega)
                | skip
                  refine Z.j_skip ?_
                  refine Z.j_blk ?_
                  refine Z.j_then ?_
                  refine Z.j_seq ?_
                  refine Z.j_region ?_
                  refine Z.s_val (Z.pv_fieldAddr (o' := 0) rfl Try.underlying41 rfl Try.sizeOf3 rfl) ?_
                  refine Z.s_val (Z.pv_load1 rfl (by repeat (first | with_reducible exact Z.Take.here | apply Z.Take.there)) Try.isAgg3 (by rfl)) ?_
                  refine Z.s_val (Z.pv_fieldAddr (o' := 0) rfl Try.underlying41 rfl Try.sizeOf3 rfl) ?_
                  refine Z.s_val (Z.pv_load1 rfl (by repeat (first | with_reducible exact Z.Take.here | apply Z.Take.there)) Try.isAgg3 (by rfl)) ?_
                  refine Z.s_val (Z.pv_add rfl rfl rfl) ?_
                  refine Z.s_val (Z.pv_fieldAddr (o' := 1) rfl Try.underlying41 rfl Try.sizeOf2 rfl) ?_
                  refine Z.s_val (Z.pv_load1 rfl (by repeat (first | with_reducible exact Z.Take.here | apply Z.Take.there)) Try.isAgg2 (by rfl)) ?_
                  refine Z.s_val (Z.pv_fieldAddr (o' := 1) rfl Try.underlying41 rfl Try.sizeOf2 rfl) ?_
                  refine Z.s_val (Z.pv_load1 rfl (by repeat (first | with_reducible exact Z.Take.here | apply Z.Take.there)) Try.isAgg2 (by rfl)) ?_
                  refine Z.s_val (Z.pv_add rfl rfl rfl) ?_
                  refine Z.s_val (Z.pv_fieldAddr (o' := 2) rfl Try.underlying41 rfl Try.sizeOf2 rfl) ?_
                  refine Z.s_val (Z.pv_load1 rfl (by repeat (first | with_reducible exact Z.Take.here | apply Z.Take.there)) Try.isAgg2 (by rfl)) ?_
                  refine Z.s_val (Z.pv_fieldAddr (o' := 2) rfl Try.underlying41 rfl Try.sizeOf2 rfl) ?_
                  refine Z.s_val (Z.pv_load1 rfl (by repeat (first | with_reducible exact Z.Take.here | apply Z.Take.there)) Try.isAgg2 (by rfl)) ?_
                  refine Z.s_val (Z.pv_min rfl rfl) ?_
                  refine Z.s_val (Z.pv_fieldAddr (o' := 3) rfl Try.underlying41 rfl Try.sizeOf2 rfl) ?_
                  refine Z.s_val (Z.pv_load1 rfl (by repeat (first | with_reducible exact Z.Take.here | apply Z.Take.there)) Try.isAgg2 (by rfl)) ?_
                  refine Z.s_val (Z.pv_fieldAddr (o' := 3) rfl Try.underlying41 rfl Try.sizeOf2 rfl) ?_
                  refine Z.s_val (Z.pv_load1 rfl (by repeat (first | with_reducible exact Z.Take.here | apply Z.Take.there)) Try.isAgg2 (by rfl)) ?_
                  refine Z.s_val (Z.pv_max rfl rfl) ?_
                  refine Z.s_val (Z.pv_build rfl Try.zeroValue41 pl41 rfl) ?_
                  refine Z.s_storeA rfl rfl Try.sizeOf41 rfl (by repeat (first | with_reducible exact Z.Upd.here | apply Z.Upd.there)) (by rfl) ?_
                  refine Z.j_nil ?_
                  refine Z.j_then ?_
                  refine Z.j_ret ?_
                  refine Z.j_done_ret (Z.rv1 (Z.rv_cellA (x := 4) (T := 41) rfl (by repeat (first | with_reducible exact Z.Take.here | apply Z.Take.there)) Try.isAgg41 Try.sizeOf41 (by rfl))) ?_
                  exact Z.post_of ⟨by first | (rw [merge_zz (by omega) (by omega)]; rfl) | (rw [merge_zb (by omega) (by omega)]; rfl) | (rw [merge_az (by omega) (by omega)]; rfl) | (rw [merge_ab (by omega) (by omega)]; rfl), rfl⟩ (by repeat (first | with_reducible exact Z.Takes.nil | (apply Z.Takes.cons; (repeat (first | with_reducible exact Z.Take.here | apply Z.Take.there))))) (by repeat (first | with_reducible exact Z.Drop.nil | apply Z.Drop.cons))
  · try (with_reducible first | replace hg9 := of_decide_eq_true hg9 | replace hg9 := of_decide_eq_false hg9 | replace hg9 := Z.nd_true hg9 | replace hg9 := Z.nd_false hg9 | replace hg9 := Z.nn_true hg9 | replace hg9 := Z.nn_false hg9 | replace hg9 := Z.nb_true hg9 | replace hg9 := Z.nb_false hg9)
    first
    | (exfalso; first | (cases hg9; done) | omega)
    | skip
      refine Z.s_skip ?_
      refine Z.s_skip ?_
      refine Z.s_skip ?_
      refine Z.s_val (Z.pv_pick rfl rfl) ?_
      refine Z.s_val (Z.pv_assign rfl) ?_
      refine Z.j_nil ?_
      refine Z.j_then ?_
      refine Z.j_cond rfl (fun hc5 => ?_) (fun hc5 => ?_)
      · try (with_reducible first | replace hc5 := of_decide_eq_true hc5 | replace hc5 := of_decide_eq_false hc5 | replace hc5 := Z.nd_true hc5 | replace hc5 := Z.nd_false hc5 | replace hc5 := Z.nn_true hc5 | replace hc5 := Z.nn_false hc5 | replace hc5 := Z.nb_true hc5 | replace hc5 := Z.nb_false hc5)
        first
        | (exfalso; first | (cases hc5; done) | omega)
        | skip
          refine Z.j_seq ?_
          refine Z.j_region ?_
          refine Z.s_val (Z.pv_build rfl Try.zeroValue41 pl41 rfl) ?_
          refine Z.s_storeA rfl rfl Try.sizeOf41 rfl (by repeat (first | with_reducible exact Z.Upd.here | apply Z.Upd.there)) (by rfl) ?_
          refine Z.j_nil ?_
          refine Z.j_then ?_
          refine Z.j_ret ?_
          refine Z.j_blk_ret ?_
          refine Z.j_then_ret ?_
          refine Z.j_done_ret (Z.rv1 (Z.rv_cellA (x := 4) (T := 41) rfl (by repeat (first | with_reducible exact Z.Take.here | apply Z.Take.there)) Try.isAgg41 Try.sizeOf41 (by rfl))) ?_
          exact Z.post_of ⟨by first | (rw [merge_zz (by omega) (by omega)]; rfl) | (rw [merge_zb (by omega) (by omega)]; rfl) | (rw [merge_az (by omega) (by omega)]; rfl) | (rw [merge_ab (by omega) (by omega)]; rfl), rfl⟩ (by repeat (first | with_reducible exact Z.Takes.nil | (apply Z.Takes.cons; (repeat (first | with_reducible exact Z.Take.here | apply Z.Take.there))))) (by repeat (first | with_reducible exact Z.Drop.nil | apply Z.Drop.cons))
      · try (with_reducible first | replace hc5 := of_decide_eq_true hc5 | replace hc5 := of_decide_eq_false hc5 | replace hc5 := Z.nd_true hc5 | replace hc5 := Z.nd_false hc5 | replace hc5 := Z.nn_true hc5 | replace hc5 := Z.nn_false hc5 | replace hc5 := Z.nb_true hc5 | replace hc5 := Z.nb_false hc5)
        first
        | (exfalso; first | (cases hc5; done) | omega)
        | skip
          refine Z.j_seq ?_
          refine Z.j_region ?_
          refine Z.s_val (Z.pv_fieldAddr (o' := 0) rfl Try.underlying41 rfl Try.sizeOf3 rfl) ?_
          refine Z.s_val (Z.pv_load1 rfl (by repeat (first | with_reducible exact Z.Take.here | apply Z.Take.there)) Try.isAgg3 (by rfl)) ?_
          refine Z.s_val (Z.pv_lss rfl rfl) ?_
          refine Z.s_val (Z.pv_assign rfl) ?_
          refine Z.j_nil ?_
          refine Z.j_then ?_
          refine Z.j_cond rfl (fun hc15 => ?_) (fun hc15 => ?_)
          · try (with_reducible first | replace hc15 := of_decide_eq_true hc15 | replace hc15 := of_decide_eq_false hc15 | replace hc15 := Z.nd_true hc15 | replace hc15 := Z.nd_false hc15 | replace hc15 := Z.nn_true hc15 | replace hc15 := Z.nn_false hc15 | replace hc15 := Z.nb_true hc15 | replace hc15 := Z.nb_false hc15)
            first
            | (exfalso; first | (cases hc15; done) | omega)
            | skip
              refine Z.j_seq ?_
              refine Z.j_region ?_
              refine Z.s_val (Z.pv_loadA rfl (by repeat (first | with_reducible exact Z.Take.here | apply Z.Take.there)) Try.isAgg41 Try.sizeOf41 (by rfl)) ?_
              refine Z.s_storeA rfl rfl Try.sizeOf41 rfl (by repeat (first | with_reducible exact Z.Upd.here | apply Z.Upd.there)) (by rfl) ?_
              refine Z.j_nil ?_
              refine Z.j_then ?_
              refine Z.j_ret ?_
              refine Z.j_blk_ret ?_
              refine Z.j_then_ret ?_
              refine Z.j_done_ret (Z.rv1 (Z.rv_cellA (x := 4) (T := 41) rfl (by repeat (first | with_reducible exact Z.Take.here | apply Z.Take.there)) Try.isAgg41 Try.sizeOf41 (by rfl))) ?_
              exact Z.post_of ⟨by first | (rw [merge_zz (by omega) (by omega)]; rfl) | (rw [merge_zb (by omega) (by omega)]; rfl) | (rw [merge_az (by omega) (by omega)]; rfl) | (rw [merge_ab (by omega) (by omega)]; rfl), rfl⟩ (by repeat (first | with_reducible exact Z.Takes.nil | (apply Z.Takes.cons; (repeat (first | with_reducible exact Z.Take.here | apply Z.Take.there))))) (by repeat (first | with_reducible exact Z.Drop.nil | apply Z.Drop.cons))
          · try (with_reducible first | replace hc15 := of_decide_eq_true hc15 | replace hc15 := of_decide_eq_false hc15 | replace hc15 := Z.nd_true hc15 | replace hc15 := Z.nd_false hc15 | replace hc15 := Z.nn_true hc15 | replace hc15 := Z.nn_false hc15 | replace hc15 := Z.nb_true hc15 | replace hc15 := Z.nb_false hc15)
            first
            | (exfalso; first | (cases hc15; done) | omega)
            | skip
              refine Z.j_seq ?_
              refine Z.j_region ?_
              refine Z.s_val (Z.pv_fieldAddr (o' := 0) rfl Try.underlying41 rfl Try.sizeOf3 rfl) ?_
              refine Z.s_val (Z.pv_load1 rfl (by repeat (first | with_reducible exact Z.Take.here | apply Z.Take.there)) Try.isAgg3 (by rfl)) ?_
              refine Z.s_val (Z.pv_lss rfl rfl) ?_
              refine Z.s_val (Z.pv_assign rfl) ?_
              refine Z.j_nil ?_
              refine Z.j_then ?_
              refine Z.j_cond rfl (fun hc20 => ?_) (fun hc20 => ?_)
              · try (with_reducible first | replace hc20 := of_decide_eq_true hc20 | replace hc20 := of_decide_eq_false hc20 | replace hc20 := Z.nd_true hc20 | replace hc20 := Z.nd_false hc20 | replace hc20 := Z.nn_true hc20 | replace hc20 := Z.nn_false hc20 | replace hc20 := Z.nb_true hc20 | replace hc20 := Z.nb_false hc20)
                first
                | (exfalso; first | (cases hc20; done) | omega)
                | skip
                  refine Z.j_seq ?_
                  refine Z.j_region ?_
                  refine Z.s_val (Z.pv_loadA rfl (by repeat (first | with_reducible exact Z.Take.here | apply Z.Take.there)) Try.isAgg41 Try.sizeOf41 (by rfl)) ?_
                  refine Z.s_storeA rfl rfl Try.sizeOf41 rfl (by repeat (first | with_reducible exact Z.Upd.here | apply Z.Upd.there)) (by rfl) ?_
                  refine Z.j_nil ?_
                  refine Z.j_then ?_
                  refine Z.j_ret ?_
                  refine Z.j_blk_ret ?_
                  refine Z.j_then_ret ?_
                  refine Z.j_done_ret (Z.rv1 (Z.rv_cellA (x := 4) (T := 41) rfl (by repeat (first | with_reducible exact Z.Take.here | apply Z.Take.there)) Try.isAgg41 Try.sizeOf41 (by rfl))) ?_
                  exact Z.post_of ⟨by first | (rw [merge_zz (by omega) (by omega)]; rfl) | (rw [merge_zb (by omega) (by omega)]; rfl) | (rw [merge_az (by omega) (by omega)]; rfl) | (rw [merge_ab (by omega) (by omega)]; rfl), rfl⟩ (by repeat (first | with_reducible exact Z.Takes.nil | (apply Z.Takes.cons; (repeat (first | with_reducible exact Z.Take.here | apply Z.Take.there))))) (by repeat (first | with_reducible exact Z.Drop.nil | apply Z.Drop.cons))
              · try (with_reducible first | replace hc20 := of_decide_eq_true hc20 | replace hc20 := of_decide_eq_false hc20 | replace hc20 := Z.nd_true hc20 | replace hc20 := Z.nd_false hc20 | replace hc20 := Z.nn_true hc20 | replace hc20 := Z.nn_false hc20 | replace hc20 := Z.nb_true hc20 | replace hc20 := Z.nb_false hc20)
                first
                | (exfalso; first | (cases hc20; done) | omega)
                | skip
                  refine Z.j_skip ?_
                  refine Z.j_blk ?_
                  refine Z.j_then ?_
                  refine Z.j_seq ?_
                  refine Z.j_region ?_
                  refine Z.s_val (Z.pv_fieldAddr (o' := 0) rfl Try.underlying41 rfl Try.sizeOf3 rfl) ?_
                  refine Z.s_val (Z.pv_load1 rfl (by repeat (first | with_reducible exact Z.Take.here | apply Z.Take.there)) Try.isAgg3 (by rfl)) ?_
                  refine Z.s_val (Z.pv_fieldAddr (o' := 0) rfl Try.underlying41 rfl Try.sizeOf3 rfl) ?_
                  refine Z.s_val (Z.pv_load1 rfl (by repeat (first | with_reducible exact Z.Take.here | apply Z.Take.there)) Try.isAgg3 (by rfl)) ?_
                  refine Z.s_val (Z.pv_add rfl rfl rfl) ?_
                  refine Z.s_val (Z.pv_fieldAddr (o' := 1) rfl Try.underlying41 rfl Try.sizeOf2 rfl) ?_
                  refine Z.s_val (Z.pv_load1 rfl (by repeat (first | with_reducible exact Z.Take.here | apply Z.Take.there)) Try.isAgg2 (by rfl)) ?_
                  refine Z.s_val (Z.pv_fieldAddr (o' := 1) rfl Try.underlying41 rfl Try.sizeOf2 rfl) ?_
                  refine Z.s_val (Z.pv_load1 rfl (by repeat (first | with_reducible exact Z.Take.here | apply Z.Take.there)) Try.isAgg2 (by rfl)) ?_
                  refine Z.s_val (Z.pv_add rfl rfl rfl) ?_
                  refine Z.s_val (Z.pv_fieldAddr (o' := 2) rfl Try.underlying41 rfl Try.sizeOf2 rfl) ?_
                  refine Z.s_val (Z.pv_load1 rfl (by repeat (first | with_reducible exact Z.Take.here | apply Z.Take.there)) Try.isAgg2 (by rfl)) ?_
                  refine Z.s_val (Z.pv_fieldAddr (o' := 2) rfl Try.underlying41 rfl Try.sizeOf2 rfl) ?_
                  refine Z.s_val (Z.pv_load1 rfl (by repeat (first | with_reducible exact Z.Take.here | apply Z.Take.there)) Try.isAgg2 (by rfl)) ?_
                  refine Z.s_val (Z.pv_min rfl rfl) ?_
                  refine Z.s_val (Z.pv_fieldAddr (o' := 3) rfl Try.underlying41 rfl Try.sizeOf2 rfl) ?_
                  refine Z.s_val (Z.pv_load1 rfl (by repeat (first | with_reducible exact Z.Take.here | apply Z.Take.there)) Try.isAgg2 (by rfl)) ?_
                  refine Z.s_val (Z.pv_fieldAddr (o' := 3) rfl Try.underlying41 rfl Try.sizeOf2 rfl) ?_
                  refine Z.s_val (Z.pv_load1 rfl (by repeat (first | with_reducible exact Z.Take.here | apply Z.Take.there)) Try.isAgg2 (by rfl)) ?_
                  refine Z.s_val (Z.pv_max rfl rfl) ?_
                  refine Z.s_val (Z.pv_build rfl Try.zeroValue41 pl41 rfl) ?_
                  refine Z.s_storeA rfl rfl Try.sizeOf41 rfl (by repeat (first | with_reducible exact Z.Upd.here | apply Z.Upd.there)) (by rfl) ?_
                  refine Z.j_nil ?_
                  refine Z.j_then ?_
                  refine Z.j_ret ?_
                  refine Z.j_done_ret (Z.rv1 (Z.rv_cellA (x := 4) (T := 41) rfl (by repeat (first | with_reducible exact Z.Take.here | apply Z.Take.there)) Try.isAgg41 Try.sizeOf41 (by rfl))) ?_
                  exact Z.post_of ⟨by first | (rw [merge_zz (by omega) (by omega)]; rfl) | (rw [merge_zb (by omega) (by omega)]; rfl) | (rw [merge_az (by omega) (by omega)]; rfl) | (rw [merge_ab (by omega) (by omega)]; rfl), rfl⟩ (by repeat (first | with_reducible exact Z.Takes.nil | (apply Z.Takes.cons; (repeat (first | with_reducible exact Z.Take.here | apply Z.Take.there))))) (by repeat (first | with_reducible exact Z.Drop.nil | apply Z.Drop.cons))


theorem mergex_spec (w0 : World) (c s mn mx c2 s2 mn2 mx2 : Int) : Z.FnD Try.prog w0 36 [.agg #[.int .i64 c, .int .i64 s, .int .i64 mn, .int .i64 mx], .agg #[.int .i64 c2, .int .i64 s2, .int .i64 mn2, .int .i64 mx2]] [] (.agg (Agg.merge ⟨c, s, mn, mx⟩ ⟨c2, s2, mn2, mx2⟩).l.toArray) [] := merge_spec w0 ⟨c, s, mn, mx⟩ ⟨c2, s2, mn2, mx2⟩

set_option maxHeartbeats 4000000 in
set_option maxRecDepth 100000 in
theorem there_spec (w0 : World) (ab : Nat) (A : Ar) (i : Int) (hi : -2147483648 ≤ i ∧ i ≤ 2147483647) : Z.FnD Try.prog w0 39 [.pointer (some ⟨ab, 0, none⟩), .int .i32 i] [Arena ab A] (.bool (A.has i)) [Arena ab A] := by
  refine Z.Fn.fnD ?_
  refine Z.fn_enter (n := 17) Try.func39 rfl (by rfl) (by rfl) (fun Fr => ?_)
  refine Z.j_app (by repeat (first | exact Z.App.nil | apply Z.App.cons)) ?_
  refine Z.j_seq ?_
  refine Z.j_open (A := Arena ab A) (by repeat (first | with_reducible exact Z.Take.here | apply Z.Take.there)) (fun _ H => H) (fun v => ?_)
  refine Z.j_app (by repeat (first | exact Z.App.nil | apply Z.App.cons)) ?_
  refine Z.j_region ?_
  refine Z.s_val (Z.pv_assign rfl) ?_
  refine Z.j_nil ?_
  refine Z.j_then ?_
  refine Z.j_seq ?_
  refine Z.j_region ?_
  refine Z.s_val (Z.pv_move rfl) ?_
  refine Z.s_val (Z.pv_geq rfl rfl) ?_
  refine Z.s_val (Z.pv_move rfl) ?_
  refine Z.s_split 7 rfl (fun hg7 => ?_) (fun hg7 => ?_)
  · try (with_reducible first | replace hg7 := of_decide_eq_true hg7 | replace hg7 := of_decide_eq_false hg7 | replace hg7 := Z.nd_true hg7 | replace hg7 := Z.nd_false hg7 | replace hg7 := Z.nn_true hg7 | replace hg7 := Z.nn_false hg7 | replace hg7 := Z.nb_true hg7 | replace hg7 := Z.nb_false hg7)
    first
    | (exfalso; first | (cases hg7; done) | omega)
    | skip
      refine Z.s_val (Z.pv_move rfl) ?_
      refine Z.s_val (Z.pv_conv rfl Try.underlying21 rfl Try.underlying3 (by first | exact IntWalk.i64_in _ (by omega) | rfl)) ?_
      refine Z.s_val (Z.pv_move rfl) ?_
      refine Z.s_val (Z.pv_nil rfl) ?_
      refine Z.s_val (Z.pv_fieldAddr (o' := 0) rfl Try.underlying66 rfl Try.sizeOf64 rfl) ?_
      refine Z.s_val (Z.pv_load1 rfl (by repeat (first | with_reducible exact Z.Take.here | apply Z.Take.there)) Try.isAgg64 (by rfl)) ?_
      refine Z.s_val (Z.pv_lenO rfl (by repeat (first | with_reducible exact Z.Take.here | apply Z.Take.there)) Try.underlying64) ?_
      refine Z.s_val (Z.pv_leq rfl rfl) ?_
      refine Z.s_val (Z.pv_pick rfl rfl) ?_
      refine Z.s_val (Z.pv_assign rfl) ?_
      refine Z.j_nil ?_
      refine Z.j_then ?_
      refine Z.j_ret ?_
      refine Z.j_fold (A := Arena ab A) (by repeat (first | with_reducible exact Z.Takes.nil | (apply Z.Takes.cons; (repeat (first | with_reducible exact Z.Take.here | apply Z.Take.there))))) (fun _ H => ⟨v, H⟩) ?_
      refine Z.j_done_ret (Z.rv1 (Z.rv_tmp (t := 4) rfl)) ?_
      exact Z.post_of ⟨by first | (rw [has_lo (by omega)]) | (rw [has_hi (by omega)]), rfl⟩ (by repeat (first | with_reducible exact Z.Takes.nil | (apply Z.Takes.cons; (repeat (first | with_reducible exact Z.Take.here | apply Z.Take.there))))) (by repeat (first | with_reducible exact Z.Drop.nil | apply Z.Drop.cons))
  · try (with_reducible first | replace hg7 := of_decide_eq_true hg7 | replace hg7 := of_decide_eq_false hg7 | replace hg7 := Z.nd_true hg7 | replace hg7 := Z.nd_false hg7 | replace hg7 := Z.nn_true hg7 | replace hg7 := Z.nn_false hg7 | replace hg7 := Z.nb_true hg7 | replace hg7 := Z.nb_false hg7)
    first
    | (exfalso; first | (cases hg7; done) | omega)
    | skip
      refine Z.s_skip ?_
      refine Z.s_skip ?_
      refine Z.s_skip ?_
      refine Z.s_skip ?_
      refine Z.s_skip ?_
      refine Z.s_skip ?_
      refine Z.s_skip ?_
      refine Z.s_skip ?_
      refine Z.s_val (Z.pv_pick rfl rfl) ?_
      refine Z.s_val (Z.pv_assign rfl) ?_
      refine Z.j_nil ?_
      refine Z.j_then ?_
      refine Z.j_ret ?_
      refine Z.j_fold (A := Arena ab A) (by repeat (first | with_reducible exact Z.Takes.nil | (apply Z.Takes.cons; (repeat (first | with_reducible exact Z.Take.here | apply Z.Take.there))))) (fun _ H => ⟨v, H⟩) ?_
      refine Z.j_done_ret (Z.rv1 (Z.rv_tmp (t := 4) rfl)) ?_
      exact Z.post_of ⟨by first | (rw [has_lo (by omega)]) | (rw [has_hi (by omega)]), rfl⟩ (by repeat (first | with_reducible exact Z.Takes.nil | (apply Z.Takes.cons; (repeat (first | with_reducible exact Z.Take.here | apply Z.Take.there))))) (by repeat (first | with_reducible exact Z.Drop.nil | apply Z.Drop.cons))

set_option maxHeartbeats 4000000 in
set_option maxRecDepth 100000 in
theorem room_spec (w0 : World) (ab : Nat) (A : Ar) (hA : A.ok) : Z.FnD Try.prog w0 16 [.pointer (some ⟨ab, 0, none⟩)] [Arena ab A] (.int .i64 (A.limit - A.nodes.length)) [Arena ab A] := by
  obtain ⟨⟨h1, h2, h3⟩, _⟩ := hA
  refine Z.Fn.fnD ?_
  refine Z.fn_enter (n := 13) Try.func16 rfl (by rfl) (by rfl) (fun Fr => ?_)
  refine Z.j_app (by repeat (first | exact Z.App.nil | apply Z.App.cons)) ?_
  refine Z.j_seq ?_
  refine Z.j_open (A := Arena ab A) (by repeat (first | with_reducible exact Z.Take.here | apply Z.Take.there)) (fun _ H => H) (fun v => ?_)
  refine Z.j_app (by repeat (first | exact Z.App.nil | apply Z.App.cons)) ?_
  refine Z.j_region ?_
  refine Z.s_val (Z.pv_assign rfl) ?_
  refine Z.j_nil ?_
  refine Z.j_then ?_
  refine Z.j_seq ?_
  refine Z.j_draw (vals := [_, _, _, _, _, _, _, _, _, _, _]) 11 (by kernel_rfl) (by kernel_rfl) rfl (by rfl) (Z.heads_cons (Z.hq_val (Z.pv_move (by rfl))) (Z.heads_cons (Z.hq_val (Z.pv_nil (by rfl))) (Z.heads_cons (Z.hq_val (Z.pv_fieldAddr (o' := 1) (by rfl) Try.underlying66 (by rfl) (by exact Try.sizeOf3) (by rfl))) (Z.heads_cons (Z.hq_val (Z.pv_load1 (by rfl) (by repeat (first | with_reducible exact Z.Take.here | apply Z.Take.there)) Try.isAgg3 (by rfl))) (Z.heads_cons (Z.hq_val (Z.pv_move (by rfl))) (Z.heads_cons (Z.hq_val (Z.pv_nil (by rfl))) (Z.heads_cons (Z.hq_val (Z.pv_fieldAddr (o' := 0) (by rfl) Try.underlying66 (by rfl) (by exact Try.sizeOf64) (by rfl))) (Z.heads_cons (Z.hq_val (Z.pv_load1 (by rfl) (by repeat (first | with_reducible exact Z.Take.here | apply Z.Take.there)) Try.isAgg64 (by rfl))) (Z.heads_cons (Z.hq_val (Z.pv_lenO (by rfl) (by repeat (first | with_reducible exact Z.Take.here | apply Z.Take.there)) Try.underlying64)) (Z.heads_cons (Z.hq_val (Z.pv_sub (by rfl) (by rfl) (by first | exact IntWalk.i64_in _ (by omega) | rfl))) (Z.heads_cons (Z.hq_val (Z.pv_assign (by rfl))) Z.heads_nil))))))))))) ?_
  refine Z.j_nil ?_
  refine Z.j_then ?_
  refine Z.j_ret ?_
  refine Z.j_fold (A := Arena ab A) (by repeat (first | with_reducible exact Z.Takes.nil | (apply Z.Takes.cons; (repeat (first | with_reducible exact Z.Take.here | apply Z.Take.there))))) (fun _ H => ⟨v, H⟩) ?_
  refine Z.j_done_ret (Z.rv1 (Z.rv_tmp (t := 2) rfl)) ?_
  exact Z.post_of ⟨rfl, rfl⟩ (by repeat (first | with_reducible exact Z.Takes.nil | (apply Z.Takes.cons; (repeat (first | with_reducible exact Z.Take.here | apply Z.Take.there))))) (by repeat (first | with_reducible exact Z.Drop.nil | apply Z.Drop.cons))

set_option maxHeartbeats 4000000 in
set_option maxRecDepth 100000 in
theorem arenaNew_spec (w0 : World) (n : Int) (hn : 1 ≤ n ∧ n ≤ 4194304) : Z.Fn Try.prog w0 14 [.int .i64 n] [] (fun v Q => ∃ ab, v = .tuple #[.pointer (some ⟨ab, 0, none⟩), .int .i64 0] ∧ Q = [Arena ab ⟨[], n⟩]) := by
  refine Z.fn_enter (n := 13) Try.func14 rfl (by rfl) (by rfl) (fun Fr => ?_)
  refine Z.j_app (by repeat (first | exact Z.App.nil | apply Z.App.cons)) ?_
  refine Z.j_seq ?_
  refine Z.j_region ?_
  refine Z.s_val (Z.pv_assign rfl) ?_
  refine Z.s_val (Z.pv_assign rfl) ?_
  refine Z.j_nil ?_
  refine Z.j_then ?_
  refine Z.j_seq ?_
  refine Z.j_seq ?_
  refine Z.j_region ?_
  refine Z.s_val (Z.pv_move rfl) ?_
  refine Z.s_val (Z.pv_lss rfl rfl) ?_
  refine Z.s_val (Z.pv_move rfl) ?_
  refine Z.s_split 6 rfl (fun hg6 => ?_) (fun hg6 => ?_)
  · try (with_reducible first | replace hg6 := of_decide_eq_true hg6 | replace hg6 := of_decide_eq_false hg6 | replace hg6 := Z.nd_true hg6 | replace hg6 := Z.nd_false hg6 | replace hg6 := Z.nn_true hg6 | replace hg6 := Z.nn_false hg6 | replace hg6 := Z.nb_true hg6 | replace hg6 := Z.nb_false hg6)
    first
    | (exfalso; first | (cases hg6; done) | omega)
    | skip
      refine Z.s_skip ?_
      refine Z.s_skip ?_
      refine Z.s_val (Z.pv_pick rfl rfl) ?_
      refine Z.j_nil ?_
      refine Z.j_then ?_
      refine Z.j_cond rfl (fun hc9 => ?_) (fun hc9 => ?_)
      · try (with_reducible first | replace hc9 := of_decide_eq_true hc9 | replace hc9 := of_decide_eq_false hc9 | replace hc9 := Z.nd_true hc9 | replace hc9 := Z.nd_false hc9 | replace hc9 := Z.nn_true hc9 | replace hc9 := Z.nn_false hc9 | replace hc9 := Z.nb_true hc9 | replace hc9 := Z.nb_false hc9)
        first
        | (exfalso; first | (cases hc9; done) | omega)
        | skip
          refine Z.j_seq ?_
          refine Z.j_region ?_
          refine Z.s_val (Z.pv_assign rfl) ?_
          refine Z.s_val (Z.pv_assign rfl) ?_
          refine Z.j_nil ?_
          refine Z.j_then ?_
          refine Z.j_ret ?_
          refine Z.j_then_ret ?_
          refine Z.J.own_nil 69 7 ?_
          refine Z.j_fold (A := Arena b12 ⟨[], n⟩) (As := [Z.cl b12 66 [.slice none 0 0, .int .i64 n], Z.Own 69 7 (.slice none 0 0) 0 []]) (by repeat (first | with_reducible exact Z.Takes.nil | (apply Z.Takes.cons; (repeat (first | with_reducible exact Z.Take.here | apply Z.Take.there))))) (fun _ H => ⟨_, H⟩) ?_
          refine Z.j_done_ret (Z.rv2 (Z.rv_tmp (t := 2) rfl) (Z.rv_tmp (t := 3) rfl)) ?_
          exact Z.post_of ⟨b12, rfl, rfl⟩ (by repeat (first | with_reducible exact Z.Takes.nil | (apply Z.Takes.cons; (repeat (first | with_reducible exact Z.Take.here | apply Z.Take.there))))) (by repeat (first | with_reducible exact Z.Drop.nil | apply Z.Drop.cons))
      · try (with_reducible first | replace hc9 := of_decide_eq_true hc9 | replace hc9 := of_decide_eq_false hc9 | replace hc9 := Z.nd_true hc9 | replace hc9 := Z.nd_false hc9 | replace hc9 := Z.nn_true hc9 | replace hc9 := Z.nn_false hc9 | replace hc9 := Z.nb_true hc9 | replace hc9 := Z.nb_false hc9)
        first
        | (exfalso; first | (cases hc9; done) | omega)
        | skip
          refine Z.j_skip ?_
          refine Z.j_then ?_
          refine Z.j_seq ?_
          refine Z.j_region ?_
          refine Z.s_val (Z.pv_move rfl) ?_
          refine Z.s_val (Z.pv_build rfl Try.zeroValue66 pl66 rfl) ?_
          refine Z.s_box rfl (fun b12 => ?_)
          refine Z.s_val (Z.pv_assign rfl) ?_
          refine Z.s_val (Z.pv_assign rfl) ?_
          refine Z.j_nil ?_
          refine Z.j_then ?_
          refine Z.j_ret ?_
          refine Z.J.own_nil 69 7 ?_
          refine Z.j_fold (A := Arena b12 ⟨[], n⟩) (As := [Z.cl b12 66 [.slice none 0 0, .int .i64 n], Z.Own 69 7 (.slice none 0 0) 0 []]) (by repeat (first | with_reducible exact Z.Takes.nil | (apply Z.Takes.cons; (repeat (first | with_reducible exact Z.Take.here | apply Z.Take.there))))) (fun _ H => ⟨_, H⟩) ?_
          refine Z.j_done_ret (Z.rv2 (Z.rv_tmp (t := 2) rfl) (Z.rv_tmp (t := 3) rfl)) ?_
          exact Z.post_of ⟨b12, rfl, rfl⟩ (by repeat (first | with_reducible exact Z.Takes.nil | (apply Z.Takes.cons; (repeat (first | with_reducible exact Z.Take.here | apply Z.Take.there))))) (by repeat (first | with_reducible exact Z.Drop.nil | apply Z.Drop.cons))
  · try (with_reducible first | replace hg6 := of_decide_eq_true hg6 | replace hg6 := of_decide_eq_false hg6 | replace hg6 := Z.nd_true hg6 | replace hg6 := Z.nd_false hg6 | replace hg6 := Z.nn_true hg6 | replace hg6 := Z.nn_false hg6 | replace hg6 := Z.nb_true hg6 | replace hg6 := Z.nb_false hg6)
    first
    | (exfalso; first | (cases hg6; done) | omega)
    | skip
      refine Z.s_val (Z.pv_move rfl) ?_
      refine Z.s_val (Z.pv_gtr rfl rfl) ?_
      refine Z.s_val (Z.pv_pick rfl rfl) ?_
      refine Z.j_nil ?_
      refine Z.j_then ?_
      refine Z.j_cond rfl (fun hc9 => ?_) (fun hc9 => ?_)
      · try (with_reducible first | replace hc9 := of_decide_eq_true hc9 | replace hc9 := of_decide_eq_false hc9 | replace hc9 := Z.nd_true hc9 | replace hc9 := Z.nd_false hc9 | replace hc9 := Z.nn_true hc9 | replace hc9 := Z.nn_false hc9 | replace hc9 := Z.nb_true hc9 | replace hc9 := Z.nb_false hc9)
        first
        | (exfalso; first | (cases hc9; done) | omega)
        | skip
          refine Z.j_seq ?_
          refine Z.j_region ?_
          refine Z.s_val (Z.pv_assign rfl) ?_
          refine Z.s_val (Z.pv_assign rfl) ?_
          refine Z.j_nil ?_
          refine Z.j_then ?_
          refine Z.j_ret ?_
          refine Z.j_then_ret ?_
          refine Z.J.own_nil 69 7 ?_
          refine Z.j_fold (A := Arena b12 ⟨[], n⟩) (As := [Z.cl b12 66 [.slice none 0 0, .int .i64 n], Z.Own 69 7 (.slice none 0 0) 0 []]) (by repeat (first | with_reducible exact Z.Takes.nil | (apply Z.Takes.cons; (repeat (first | with_reducible exact Z.Take.here | apply Z.Take.there))))) (fun _ H => ⟨_, H⟩) ?_
          refine Z.j_done_ret (Z.rv2 (Z.rv_tmp (t := 2) rfl) (Z.rv_tmp (t := 3) rfl)) ?_
          exact Z.post_of ⟨b12, rfl, rfl⟩ (by repeat (first | with_reducible exact Z.Takes.nil | (apply Z.Takes.cons; (repeat (first | with_reducible exact Z.Take.here | apply Z.Take.there))))) (by repeat (first | with_reducible exact Z.Drop.nil | apply Z.Drop.cons))
      · try (with_reducible first | replace hc9 := of_decide_eq_true hc9 | replace hc9 := of_decide_eq_false hc9 | replace hc9 := Z.nd_true hc9 | replace hc9 := Z.nd_false hc9 | replace hc9 := Z.nn_true hc9 | replace hc9 := Z.nn_false hc9 | replace hc9 := Z.nb_true hc9 | replace hc9 := Z.nb_false hc9)
        first
        | (exfalso; first | (cases hc9; done) | omega)
        | skip
          refine Z.j_skip ?_
          refine Z.j_then ?_
          refine Z.j_seq ?_
          refine Z.j_region ?_
          refine Z.s_val (Z.pv_move rfl) ?_
          refine Z.s_val (Z.pv_build rfl Try.zeroValue66 pl66 rfl) ?_
          refine Z.s_box rfl (fun b12 => ?_)
          refine Z.s_val (Z.pv_assign rfl) ?_
          refine Z.s_val (Z.pv_assign rfl) ?_
          refine Z.j_nil ?_
          refine Z.j_then ?_
          refine Z.j_ret ?_
          refine Z.J.own_nil 69 7 ?_
          refine Z.j_fold (A := Arena b12 ⟨[], n⟩) (As := [Z.cl b12 66 [.slice none 0 0, .int .i64 n], Z.Own 69 7 (.slice none 0 0) 0 []]) (by repeat (first | with_reducible exact Z.Takes.nil | (apply Z.Takes.cons; (repeat (first | with_reducible exact Z.Take.here | apply Z.Take.there))))) (fun _ H => ⟨_, H⟩) ?_
          refine Z.j_done_ret (Z.rv2 (Z.rv_tmp (t := 2) rfl) (Z.rv_tmp (t := 3) rfl)) ?_
          exact Z.post_of ⟨b12, rfl, rfl⟩ (by repeat (first | with_reducible exact Z.Takes.nil | (apply Z.Takes.cons; (repeat (first | with_reducible exact Z.Take.here | apply Z.Take.there))))) (by repeat (first | with_reducible exact Z.Drop.nil | apply Z.Drop.cons))

set_option maxHeartbeats 4000000 in
set_option maxRecDepth 100000 in
theorem alloc_spec (w0 : World) (ab : Nat) (A : Ar) (hA : A.ok) (hr : (A.nodes.length : Int) < A.limit) : Z.FnD Try.prog w0 26 [.pointer (some ⟨ab, 0, none⟩)] [Arena ab A] (.tuple #[.int .i32 (A.nodes.length + 1), .int .i64 0]) [Arena ab A.new] := by
  obtain ⟨⟨h1, h2, h3⟩, _⟩ := id hA
  refine Z.Fn.fnD ?_
  refine Z.fn_enter (n := 23) Try.func26 rfl (by rfl) (by rfl) (fun Fr => ?_)
  refine Z.j_app (by repeat (first | exact Z.App.nil | apply Z.App.cons)) ?_
  refine Z.j_seq ?_
  refine Z.j_region ?_
  refine Z.s_val (Z.pv_assign rfl) ?_
  refine Z.s_val (Z.pv_assign rfl) ?_
  refine Z.j_nil ?_
  refine Z.j_then ?_
  refine Z.j_seq ?_
  refine Z.j_seq ?_
  refine Z.j_region ?_
  refine Z.s_val (Z.pv_move rfl) ?_
  refine Z.s_callD rfl rfl rfl isFn16 (by repeat (first | with_reducible exact Z.Takes.nil | (apply Z.Takes.cons; (repeat (first | with_reducible exact Z.Take.here | apply Z.Take.there))))) (by repeat (first | exact Z.App.nil | apply Z.App.cons)) (room_spec _ _ _ (by assumption)) ?_
  refine Z.s_val (Z.pv_eql rfl rfl) ?_
  refine Z.j_nil ?_
  refine Z.j_then ?_
  refine Z.j_cond rfl (fun hc6 => ?_) (fun hc6 => ?_)
  · exfalso; first | (cases hc6; done) | try (with_reducible first | replace hc6 := of_decide_eq_true hc6 | replace hc6 := of_decide_eq_false hc6 | replace hc6 := Z.nd_true hc6 | replace hc6 := Z.nd_false hc6 | replace hc6 := Z.nn_true hc6 | replace hc6 := Z.nn_false hc6 | replace hc6 := Z.nb_true hc6 | replace hc6 := Z.nb_false hc6); first | omega | (simp_all; done)
  · try (with_reducible first | replace hc6 := of_decide_eq_true hc6 | replace hc6 := of_decide_eq_false hc6 | replace hc6 := Z.nd_true hc6 | replace hc6 := Z.nd_false hc6 | replace hc6 := Z.nn_true hc6 | replace hc6 := Z.nn_false hc6 | replace hc6 := Z.nb_true hc6 | replace hc6 := Z.nb_false hc6)
    first
    | (exfalso; first | (cases hc6; done) | omega)
    | skip
      refine Z.j_skip ?_
      refine Z.j_then ?_
      refine Z.j_seq ?_
      refine Z.j_open (A := Arena ab A) (by repeat (first | with_reducible exact Z.Take.here | apply Z.Take.there)) (fun _ H => H) (fun v => ?_)
      refine Z.j_app (by repeat (first | exact Z.App.nil | apply Z.App.cons)) ?_
      refine Z.j_region ?_
      refine Z.s_val (Z.pv_move rfl) ?_
      refine Z.s_val (Z.pv_move rfl) ?_
      refine Z.s_val (Z.pv_nil rfl) ?_
      refine Z.s_val (Z.pv_fieldAddr (o' := 0) rfl Try.underlying66 rfl Try.sizeOf64 rfl) ?_
      refine Z.s_val (Z.pv_load1 rfl (by repeat (first | with_reducible exact Z.Take.here | apply Z.Take.there)) Try.isAgg64 (by rfl)) ?_
      refine Z.s_val (Z.pv_build rfl Try.zeroValue69 pl69 rfl) ?_
      refine Z.s_buildSlice rfl Try.underlying64 Try.zeroValue69 Try.sizeOf69 rfl rfl rfl rfl (fun b13 => ?_)
      refine Z.s_append (k := 7) (by' := 48) rfl rfl (by repeat (first | with_reducible exact Z.Take.here | apply Z.Take.there)) (Z.reads_cl (by repeat (first | with_reducible exact Z.Take.here | apply Z.Take.there)) (k := 7) (by rfl)) Try.underlying64 Try.typeInfo69 rfl rfl rfl rfl rfl rfl (.inl (by omega)) (by omega) (by omega) (fun v14 hv14 => ?_)
      refine Z.s_val (Z.pv_nil rfl) ?_
      refine Z.s_val (Z.pv_fieldAddr (o' := 0) rfl Try.underlying66 rfl Try.sizeOf64 rfl) ?_
      refine Z.s_store1 rfl rfl (by first | rfl | assumption) Try.sizeOf64 (by repeat (first | with_reducible exact Z.Upd.here | apply Z.Upd.there)) (by rfl) ?_
      refine Z.j_nil ?_
      refine Z.j_then ?_
      refine Z.j_seq ?_
      refine Z.j_region ?_
      refine Z.s_val (Z.pv_move rfl) ?_
      refine Z.s_val (Z.pv_nil rfl) ?_
      refine Z.s_val (Z.pv_fieldAddr (o' := 0) rfl Try.underlying66 rfl Try.sizeOf64 rfl) ?_
      refine Z.s_val (Z.pv_load1 rfl (by repeat (first | with_reducible exact Z.Take.here | apply Z.Take.there)) Try.isAgg64 (by rfl)) ?_
      refine Z.s_val (Z.pv_lenO rfl (by repeat (first | with_reducible exact Z.Take.here | apply Z.Take.there)) Try.underlying64) ?_
      refine Z.s_val (Z.pv_conv rfl Try.underlying3 rfl Try.underlying21 (by first | exact IntWalk.i32_in _ (by omega) | rfl)) ?_
      refine Z.s_val (Z.pv_assign rfl) ?_
      refine Z.s_val (Z.pv_assign rfl) ?_
      refine Z.j_nil ?_
      refine Z.j_then ?_
      refine Z.j_ret ?_
      refine Z.j_fold (A := Arena ab A.new) (As := [Z.cl ab 66 [v14, .int .i64 A.limit], Z.Own 69 7 v14 (A.nodes.length + 1) (A.cells ++ [.int .i32 0, .int .i32 0, .int .i64 0, .int .i64 0, .int .i64 0, .int .i64 0, .bool false])]) (by repeat (first | with_reducible exact Z.Takes.nil | (apply Z.Takes.cons; (repeat (first | with_reducible exact Z.Take.here | apply Z.Take.there))))) (fun _ H => ⟨v14, by rw [new_cells, new_len]; exact H⟩) ?_
      refine Z.j_done_ret (Z.rv2 (Z.rv_tmp (t := 2) rfl) (Z.rv_tmp (t := 3) rfl)) ?_
      exact Z.post_of ⟨rfl, rfl⟩ (by repeat (first | with_reducible exact Z.Takes.nil | (apply Z.Takes.cons; (repeat (first | with_reducible exact Z.Take.here | apply Z.Take.there))))) (by repeat (first | with_reducible exact Z.Drop.nil | apply Z.Drop.cons))

set_option maxHeartbeats 4000000 in
set_option maxRecDepth 100000 in
theorem alloc_full_spec (w0 : World) (ab : Nat) (A : Ar) (hA : A.ok) (hr : ¬ (A.nodes.length : Int) < A.limit) : Z.FnD Try.prog w0 26 [.pointer (some ⟨ab, 0, none⟩)] [Arena ab A] (.tuple #[.int .i32 0, .int .i64 6]) [Arena ab A] := by
  obtain ⟨⟨h1, h2, h3⟩, _⟩ := id hA
  refine Z.Fn.fnD ?_
  refine Z.fn_enter (n := 23) Try.func26 rfl (by rfl) (by rfl) (fun Fr => ?_)
  refine Z.j_app (by repeat (first | exact Z.App.nil | apply Z.App.cons)) ?_
  refine Z.j_seq ?_
  refine Z.j_region ?_
  refine Z.s_val (Z.pv_assign rfl) ?_
  refine Z.s_val (Z.pv_assign rfl) ?_
  refine Z.j_nil ?_
  refine Z.j_then ?_
  refine Z.j_seq ?_
  refine Z.j_seq ?_
  refine Z.j_region ?_
  refine Z.s_val (Z.pv_move rfl) ?_
  refine Z.s_callD rfl rfl rfl isFn16 (by repeat (first | with_reducible exact Z.Takes.nil | (apply Z.Takes.cons; (repeat (first | with_reducible exact Z.Take.here | apply Z.Take.there))))) (by repeat (first | exact Z.App.nil | apply Z.App.cons)) (room_spec _ _ _ (by assumption)) ?_
  refine Z.s_val (Z.pv_eql rfl rfl) ?_
  refine Z.j_nil ?_
  refine Z.j_then ?_
  refine Z.j_cond rfl (fun hc6 => ?_) (fun hc6 => ?_)
  · try (with_reducible first | replace hc6 := of_decide_eq_true hc6 | replace hc6 := of_decide_eq_false hc6 | replace hc6 := Z.nd_true hc6 | replace hc6 := Z.nd_false hc6 | replace hc6 := Z.nn_true hc6 | replace hc6 := Z.nn_false hc6 | replace hc6 := Z.nb_true hc6 | replace hc6 := Z.nb_false hc6)
    first
    | (exfalso; first | (cases hc6; done) | omega)
    | skip
      refine Z.j_seq ?_
      refine Z.j_region ?_
      refine Z.s_val (Z.pv_assign rfl) ?_
      refine Z.s_val (Z.pv_assign rfl) ?_
      refine Z.j_nil ?_
      refine Z.j_then ?_
      refine Z.j_ret ?_
      refine Z.j_then_ret ?_
      refine Z.j_done_ret (Z.rv2 (Z.rv_tmp (t := 2) rfl) (Z.rv_tmp (t := 3) rfl)) ?_
      exact Z.post_of ⟨rfl, rfl⟩ (by repeat (first | with_reducible exact Z.Takes.nil | (apply Z.Takes.cons; (repeat (first | with_reducible exact Z.Take.here | apply Z.Take.there))))) (by repeat (first | with_reducible exact Z.Drop.nil | apply Z.Drop.cons))
  · exfalso; first | (cases hc6; done) | try (with_reducible first | replace hc6 := of_decide_eq_true hc6 | replace hc6 := of_decide_eq_false hc6 | replace hc6 := Z.nd_true hc6 | replace hc6 := Z.nd_false hc6 | replace hc6 := Z.nn_true hc6 | replace hc6 := Z.nn_false hc6 | replace hc6 := Z.nb_true hc6 | replace hc6 := Z.nb_false hc6); first | omega | (simp_all; done)


theorem allocs_spec (w0 : World) (ab : Nat) (A : Ar) (hA : A.ok) : Z.FnD Try.prog w0 26 [.pointer (some ⟨ab, 0, none⟩)] [Arena ab A] (.tuple #[.int .i32 A.next, .int .i64 (if (A.nodes.length : Int) < A.limit then 0 else 6)]) [Arena ab A.alloc] := by
  by_cases h : (A.nodes.length : Int) < A.limit
  · simp only [Ar.next, Ar.alloc, h, if_true]; exact alloc_spec w0 ab A hA h
  · simp only [Ar.next, Ar.alloc, h, if_false]; exact alloc_full_spec w0 ab A hA h

set_option maxHeartbeats 4000000 in
set_option maxRecDepth 100000 in
theorem get_in_spec (w0 : World) (ab : Nat) (A : Ar) (i : Int) (hb : -2147483648 ≤ i ∧ i ≤ 2147483647) (hi : 1 ≤ i ∧ i ≤ A.nodes.length) : Z.FnD Try.prog w0 38 [.pointer (some ⟨ab, 0, none⟩), .int .i32 i] [Arena ab A] (.tuple #[.agg (A.nodes.getD (i - 1).toNat .z).c.toArray, .int .i64 0]) [Arena ab A] := by
  have hh : A.has i = true := by simp [Ar.has, hi]
  refine Z.Fn.fnD ?_
  refine Z.fn_enter (n := 19) Try.func38 rfl (by rfl) (by rfl) (fun Fr => ?_)
  refine Z.j_app (by repeat (first | exact Z.App.nil | apply Z.App.cons)) ?_
  refine Z.j_seq ?_
  refine Z.j_region ?_
  refine Z.s_alloc Try.zeroValue69 (fun b4 => ?_)
  refine Z.s_val (Z.pv_assign rfl) ?_
  refine Z.j_nil ?_
  refine Z.j_then ?_
  refine Z.j_seq ?_
  refine Z.j_seq ?_
  refine Z.j_region ?_
  refine Z.s_val (Z.pv_move rfl) ?_
  refine Z.s_val (Z.pv_move rfl) ?_
  refine Z.s_callD rfl rfl rfl isFn39 (by repeat (first | with_reducible exact Z.Takes.nil | (apply Z.Takes.cons; (repeat (first | with_reducible exact Z.Take.here | apply Z.Take.there))))) (by repeat (first | exact Z.App.nil | apply Z.App.cons)) (there_spec _ _ _ _ (by omega)) ?_
  refine Z.s_val (Z.pv_not rfl) ?_
  refine Z.j_nil ?_
  refine Z.j_then ?_
  refine Z.j_cond rfl (fun hc9 => ?_) (fun hc9 => ?_)
  · try (with_reducible first | replace hc9 := of_decide_eq_true hc9 | replace hc9 := of_decide_eq_false hc9 | replace hc9 := Z.nd_true hc9 | replace hc9 := Z.nd_false hc9 | replace hc9 := Z.nn_true hc9 | replace hc9 := Z.nn_false hc9 | replace hc9 := Z.nb_true hc9 | replace hc9 := Z.nb_false hc9)
    rw [hh] at hc9; cases hc9
  · try (with_reducible first | replace hc9 := of_decide_eq_true hc9 | replace hc9 := of_decide_eq_false hc9 | replace hc9 := Z.nd_true hc9 | replace hc9 := Z.nd_false hc9 | replace hc9 := Z.nn_true hc9 | replace hc9 := Z.nn_false hc9 | replace hc9 := Z.nb_true hc9 | replace hc9 := Z.nb_false hc9)
    first
    | (exfalso; first | (cases hc9; done) | omega)
    | skip
      refine Z.j_skip ?_
      refine Z.j_then ?_
      refine Z.j_seq ?_
      refine Z.j_open (A := Arena ab A) (by repeat (first | with_reducible exact Z.Take.here | apply Z.Take.there)) (fun _ H => H) (fun v => ?_)
      refine Z.j_app (by repeat (first | exact Z.App.nil | apply Z.App.cons)) ?_
      refine Z.j_unown (T := 69) (k := 7) (by repeat (first | with_reducible exact Z.Take.here | apply Z.Take.there)) (fun e1 e2 e3 => by exfalso; omega) (fun nb cap sp e1 e2 e3 => ?_)
      subst e1
      refine Z.j_region ?_
      refine Z.s_val (Z.pv_move rfl) ?_
      refine Z.s_val (Z.pv_nil rfl) ?_
      refine Z.s_val (Z.pv_fieldAddr (o' := 0) rfl Try.underlying66 rfl Try.sizeOf64 rfl) ?_
      refine Z.s_val (Z.pv_load1 rfl (by repeat (first | with_reducible exact Z.Take.here | apply Z.Take.there)) Try.isAgg64 (by rfl)) ?_
      refine Z.s_val (Z.pv_move rfl) ?_
      refine Z.s_val (Z.pv_sub rfl rfl (by first | exact IntWalk.i32_in _ (by omega) | rfl)) ?_
      refine Z.s_val (Z.pv_indexAddr (o' := (i - 1).toNat * 7) rfl rfl Try.underlying64 Try.sizeOf69 (by omega) (by simp)) ?_
      refine Z.s_val (Z.pv_loadA rfl (by repeat (first | with_reducible exact Z.Take.here | apply Z.Take.there)) Try.isAgg69 Try.sizeOf69 (slc_node A sp (by omega))) ?_
      refine Z.s_storeA rfl rfl Try.sizeOf69 rfl (by repeat (first | with_reducible exact Z.Upd.here | apply Z.Upd.there)) (by rfl) ?_
      refine Z.s_val (Z.pv_assign rfl) ?_
      refine Z.j_nil ?_
      refine Z.j_then ?_
      refine Z.j_ret ?_
      refine Z.j_own (T := 69) (k := 7) (c := A.cells) (sp := sp) (by repeat (first | with_reducible exact Z.Take.here | apply Z.Take.there)) e2 e3 ?_
      refine Z.j_fold (A := Arena ab A) (by repeat (first | with_reducible exact Z.Takes.nil | (apply Z.Takes.cons; (repeat (first | with_reducible exact Z.Take.here | apply Z.Take.there))))) (fun _ H => ⟨_, H⟩) ?_
      refine Z.j_done_ret (Z.rv2 (Z.rv_cellA (x := 4) (T := 69) rfl (by repeat (first | with_reducible exact Z.Take.here | apply Z.Take.there)) Try.isAgg69 Try.sizeOf69 (by rfl)) (Z.rv_tmp (t := 5) rfl)) ?_
      exact Z.post_of ⟨rfl, rfl⟩ (by repeat (first | with_reducible exact Z.Takes.nil | (apply Z.Takes.cons; (repeat (first | with_reducible exact Z.Take.here | apply Z.Take.there))))) (by repeat (first | with_reducible exact Z.Drop.nil | apply Z.Drop.cons))

set_option maxHeartbeats 4000000 in
set_option maxRecDepth 100000 in
theorem get_out_spec (w0 : World) (ab : Nat) (A : Ar) (i : Int) (hb : -2147483648 ≤ i ∧ i ≤ 2147483647) (hi : ¬ (1 ≤ i ∧ i ≤ A.nodes.length)) : Z.FnD Try.prog w0 38 [.pointer (some ⟨ab, 0, none⟩), .int .i32 i] [Arena ab A] (.tuple #[.agg Node.z.c.toArray, .int .i64 4]) [Arena ab A] := by
  have hh : A.has i = false := by simp only [Ar.has, Bool.and_eq_false_iff, decide_eq_false_iff_not]; omega
  refine Z.Fn.fnD ?_
  refine Z.fn_enter (n := 19) Try.func38 rfl (by rfl) (by rfl) (fun Fr => ?_)
  refine Z.j_app (by repeat (first | exact Z.App.nil | apply Z.App.cons)) ?_
  refine Z.j_seq ?_
  refine Z.j_region ?_
  refine Z.s_alloc Try.zeroValue69 (fun b4 => ?_)
  refine Z.s_val (Z.pv_assign rfl) ?_
  refine Z.j_nil ?_
  refine Z.j_then ?_
  refine Z.j_seq ?_
  refine Z.j_seq ?_
  refine Z.j_region ?_
  refine Z.s_val (Z.pv_move rfl) ?_
  refine Z.s_val (Z.pv_move rfl) ?_
  refine Z.s_callD rfl rfl rfl isFn39 (by repeat (first | with_reducible exact Z.Takes.nil | (apply Z.Takes.cons; (repeat (first | with_reducible exact Z.Take.here | apply Z.Take.there))))) (by repeat (first | exact Z.App.nil | apply Z.App.cons)) (there_spec _ _ _ _ (by omega)) ?_
  refine Z.s_val (Z.pv_not rfl) ?_
  refine Z.j_nil ?_
  refine Z.j_then ?_
  refine Z.j_cond rfl (fun hc9 => ?_) (fun hc9 => ?_)
  · try (with_reducible first | replace hc9 := of_decide_eq_true hc9 | replace hc9 := of_decide_eq_false hc9 | replace hc9 := Z.nd_true hc9 | replace hc9 := Z.nd_false hc9 | replace hc9 := Z.nn_true hc9 | replace hc9 := Z.nn_false hc9 | replace hc9 := Z.nb_true hc9 | replace hc9 := Z.nb_false hc9)
    first
    | (exfalso; first | (cases hc9; done) | omega)
    | skip
      refine Z.j_seq ?_
      refine Z.j_region ?_
      refine Z.s_val (Z.pv_build rfl Try.zeroValue69 pl69 rfl) ?_
      refine Z.s_storeA rfl rfl Try.sizeOf69 rfl (by repeat (first | with_reducible exact Z.Upd.here | apply Z.Upd.there)) (by rfl) ?_
      refine Z.s_val (Z.pv_assign rfl) ?_
      refine Z.j_nil ?_
      refine Z.j_then ?_
      refine Z.j_ret ?_
      refine Z.j_then_ret ?_
      refine Z.j_done_ret (Z.rv2 (Z.rv_cellA (x := 4) (T := 69) rfl (by repeat (first | with_reducible exact Z.Take.here | apply Z.Take.there)) Try.isAgg69 Try.sizeOf69 (by rfl)) (Z.rv_tmp (t := 5) rfl)) ?_
      exact Z.post_of ⟨rfl, rfl⟩ (by repeat (first | with_reducible exact Z.Takes.nil | (apply Z.Takes.cons; (repeat (first | with_reducible exact Z.Take.here | apply Z.Take.there))))) (by repeat (first | with_reducible exact Z.Drop.nil | apply Z.Drop.cons))
  · try (with_reducible first | replace hc9 := of_decide_eq_true hc9 | replace hc9 := of_decide_eq_false hc9 | replace hc9 := Z.nd_true hc9 | replace hc9 := Z.nd_false hc9 | replace hc9 := Z.nn_true hc9 | replace hc9 := Z.nn_false hc9 | replace hc9 := Z.nb_true hc9 | replace hc9 := Z.nb_false hc9)
    rw [hh] at hc9; cases hc9


theorem get_spec (w0 : World) (ab : Nat) (A : Ar) (i : Int) (hb : -2147483648 ≤ i ∧ i ≤ 2147483647) : Z.FnD Try.prog w0 38 [.pointer (some ⟨ab, 0, none⟩), .int .i32 i] [Arena ab A] (.tuple #[.agg (A.get i).c.toArray, .int .i64 (A.err i)]) [Arena ab A] := by
  by_cases h : 1 ≤ i ∧ i ≤ A.nodes.length
  · rw [get_in h, err_in h]; exact get_in_spec w0 ab A i hb h
  · rw [get_out h, err_out h]; exact get_out_spec w0 ab A i hb h

set_option maxHeartbeats 4000000 in
set_option maxRecDepth 100000 in
theorem set_in_spec (w0 : World) (ab : Nat) (A : Ar) (i : Int) (m : Node) (hb : -2147483648 ≤ i ∧ i ≤ 2147483647) (hi : 1 ≤ i ∧ i ≤ A.nodes.length) : Z.FnD Try.prog w0 28 [.pointer (some ⟨ab, 0, none⟩), .int .i32 i, .agg m.c.toArray] [Arena ab A] (.int .i64 0) [Arena ab { A with nodes := A.nodes.set (i - 1).toNat m }] := by
  have hh : A.has i = true := by simp [Ar.has, hi]
  refine Z.Fn.fnD ?_
  refine Z.fn_enter (n := 19) Try.func28 rfl (by rfl) (by rfl) (fun Fr => ?_)
  refine Z.j_app (by repeat (first | exact Z.App.nil | apply Z.App.cons)) ?_
  refine Z.j_seq ?_
  refine Z.j_region ?_
  refine Z.s_box rfl (fun b5 => ?_)
  refine Z.s_val (Z.pv_assign rfl) ?_
  refine Z.j_nil ?_
  refine Z.j_then ?_
  refine Z.j_seq ?_
  refine Z.j_seq ?_
  refine Z.j_region ?_
  refine Z.s_val (Z.pv_move rfl) ?_
  refine Z.s_val (Z.pv_move rfl) ?_
  refine Z.s_callD rfl rfl rfl isFn39 (by repeat (first | with_reducible exact Z.Takes.nil | (apply Z.Takes.cons; (repeat (first | with_reducible exact Z.Take.here | apply Z.Take.there))))) (by repeat (first | exact Z.App.nil | apply Z.App.cons)) (there_spec _ _ _ _ (by omega)) ?_
  refine Z.s_val (Z.pv_not rfl) ?_
  refine Z.j_nil ?_
  refine Z.j_then ?_
  refine Z.j_cond rfl (fun hc10 => ?_) (fun hc10 => ?_)
  · try (with_reducible first | replace hc10 := of_decide_eq_true hc10 | replace hc10 := of_decide_eq_false hc10 | replace hc10 := Z.nd_true hc10 | replace hc10 := Z.nd_false hc10 | replace hc10 := Z.nn_true hc10 | replace hc10 := Z.nn_false hc10 | replace hc10 := Z.nb_true hc10 | replace hc10 := Z.nb_false hc10)
    rw [hh] at hc10; cases hc10
  · try (with_reducible first | replace hc10 := of_decide_eq_true hc10 | replace hc10 := of_decide_eq_false hc10 | replace hc10 := Z.nd_true hc10 | replace hc10 := Z.nd_false hc10 | replace hc10 := Z.nn_true hc10 | replace hc10 := Z.nn_false hc10 | replace hc10 := Z.nb_true hc10 | replace hc10 := Z.nb_false hc10)
    first
    | (exfalso; first | (cases hc10; done) | omega)
    | skip
      refine Z.j_skip ?_
      refine Z.j_then ?_
      refine Z.j_seq ?_
      refine Z.j_open (A := Arena ab A) (by repeat (first | with_reducible exact Z.Take.here | apply Z.Take.there)) (fun _ H => H) (fun v => ?_)
      refine Z.j_app (by repeat (first | exact Z.App.nil | apply Z.App.cons)) ?_
      refine Z.j_unown (T := 69) (k := 7) (by repeat (first | with_reducible exact Z.Take.here | apply Z.Take.there)) (fun e1 e2 e3 => by exfalso; omega) (fun nb cap sp e1 e2 e3 => ?_)
      subst e1
      refine Z.j_draw (vals := [_, _, _, _, _, _, _, _]) 8 (by kernel_rfl) (by kernel_rfl) rfl (by rfl) (Z.heads_cons (Z.hq_val (Z.pv_move (by rfl))) (Z.heads_cons (Z.hq_val (Z.pv_nil (by rfl))) (Z.heads_cons (Z.hq_val (Z.pv_fieldAddr (o' := 0) (by rfl) Try.underlying66 (by rfl) (by exact Try.sizeOf64) (by rfl))) (Z.heads_cons (Z.hq_val (Z.pv_load1 (by rfl) (by repeat (first | with_reducible exact Z.Take.here | apply Z.Take.there)) Try.isAgg64 (by rfl))) (Z.heads_cons (Z.hq_val (Z.pv_move (by rfl))) (Z.heads_cons (Z.hq_val (Z.pv_sub (by rfl) (by rfl) (by first | exact IntWalk.i32_in _ (by omega) | rfl))) (Z.heads_cons (Z.hq_val (Z.pv_loadA (by rfl) (by repeat (first | with_reducible exact Z.Take.here | apply Z.Take.there)) Try.isAgg69 (by exact Try.sizeOf69) (by rfl))) (Z.heads_cons (Z.hq_val (Z.pv_indexAddr (o' := (i - 1).toNat * 7) (by rfl) (by rfl) Try.underlying64 (by exact Try.sizeOf69) (by omega) (by simp))) Z.heads_nil)))))))) ?_
      refine Z.s_storeA rfl rfl Try.sizeOf69 rfl (by repeat (first | with_reducible exact Z.Upd.here | apply Z.Upd.there)) (ovw_node A sp m (by omega)) ?_
      refine Z.j_nil ?_
      refine Z.j_then ?_
      refine Z.j_seq ?_
      refine Z.j_region ?_
      refine Z.s_val (Z.pv_assign rfl) ?_
      refine Z.j_nil ?_
      refine Z.j_then ?_
      refine Z.j_ret ?_
      refine Z.j_own (T := 69) (k := 7) (m := A.nodes.length) (cap := cap) (c := ({ A with nodes := A.nodes.set (i - 1).toNat m } : Ar).cells) (sp := sp) (by repeat (first | with_reducible exact Z.Take.here | apply Z.Take.there)) (by rw [Ar.cells_len]; simp) (by rw [Ar.cells_len] at e3 ⊢; simpa using e3) ?_
      refine Z.j_fold (A := Arena ab { A with nodes := A.nodes.set (i - 1).toNat m }) (As := [Z.cl ab 66 [.slice (some ⟨nb, 0, none⟩) A.nodes.length cap, .int .i64 A.limit], Z.Own 69 7 (.slice (some ⟨nb, 0, none⟩) A.nodes.length cap) A.nodes.length ({ A with nodes := A.nodes.set (i - 1).toNat m } : Ar).cells]) (by repeat (first | with_reducible exact Z.Takes.nil | (apply Z.Takes.cons; (repeat (first | with_reducible exact Z.Take.here | apply Z.Take.there))))) (fun _ H => ⟨_, by simpa using H⟩) ?_
      refine Z.j_done_ret (Z.rv1 (Z.rv_tmp (t := 6) rfl)) ?_
      exact Z.post_of ⟨rfl, rfl⟩ (by repeat (first | with_reducible exact Z.Takes.nil | (apply Z.Takes.cons; (repeat (first | with_reducible exact Z.Take.here | apply Z.Take.there))))) (by repeat (first | with_reducible exact Z.Drop.nil | apply Z.Drop.cons))

set_option maxHeartbeats 4000000 in
set_option maxRecDepth 100000 in
theorem set_out_spec (w0 : World) (ab : Nat) (A : Ar) (i : Int) (m : Node) (hb : -2147483648 ≤ i ∧ i ≤ 2147483647) (hi : ¬ (1 ≤ i ∧ i ≤ A.nodes.length)) : Z.FnD Try.prog w0 28 [.pointer (some ⟨ab, 0, none⟩), .int .i32 i, .agg m.c.toArray] [Arena ab A] (.int .i64 4) [Arena ab A] := by
  have hh : A.has i = false := by simp only [Ar.has, Bool.and_eq_false_iff, decide_eq_false_iff_not]; omega
  refine Z.Fn.fnD ?_
  refine Z.fn_enter (n := 19) Try.func28 rfl (by rfl) (by rfl) (fun Fr => ?_)
  refine Z.j_app (by repeat (first | exact Z.App.nil | apply Z.App.cons)) ?_
  refine Z.j_seq ?_
  refine Z.j_region ?_
  refine Z.s_box rfl (fun b5 => ?_)
  refine Z.s_val (Z.pv_assign rfl) ?_
  refine Z.j_nil ?_
  refine Z.j_then ?_
  refine Z.j_seq ?_
  refine Z.j_seq ?_
  refine Z.j_region ?_
  refine Z.s_val (Z.pv_move rfl) ?_
  refine Z.s_val (Z.pv_move rfl) ?_
  refine Z.s_callD rfl rfl rfl isFn39 (by repeat (first | with_reducible exact Z.Takes.nil | (apply Z.Takes.cons; (repeat (first | with_reducible exact Z.Take.here | apply Z.Take.there))))) (by repeat (first | exact Z.App.nil | apply Z.App.cons)) (there_spec _ _ _ _ (by omega)) ?_
  refine Z.s_val (Z.pv_not rfl) ?_
  refine Z.j_nil ?_
  refine Z.j_then ?_
  refine Z.j_cond rfl (fun hc10 => ?_) (fun hc10 => ?_)
  · try (with_reducible first | replace hc10 := of_decide_eq_true hc10 | replace hc10 := of_decide_eq_false hc10 | replace hc10 := Z.nd_true hc10 | replace hc10 := Z.nd_false hc10 | replace hc10 := Z.nn_true hc10 | replace hc10 := Z.nn_false hc10 | replace hc10 := Z.nb_true hc10 | replace hc10 := Z.nb_false hc10)
    first
    | (exfalso; first | (cases hc10; done) | omega)
    | skip
      refine Z.j_seq ?_
      refine Z.j_region ?_
      refine Z.s_val (Z.pv_assign rfl) ?_
      refine Z.j_nil ?_
      refine Z.j_then ?_
      refine Z.j_ret ?_
      refine Z.j_then_ret ?_
      refine Z.j_done_ret (Z.rv1 (Z.rv_tmp (t := 6) rfl)) ?_
      exact Z.post_of ⟨rfl, rfl⟩ (by repeat (first | with_reducible exact Z.Takes.nil | (apply Z.Takes.cons; (repeat (first | with_reducible exact Z.Take.here | apply Z.Take.there))))) (by repeat (first | with_reducible exact Z.Drop.nil | apply Z.Drop.cons))
  · try (with_reducible first | replace hc10 := of_decide_eq_true hc10 | replace hc10 := of_decide_eq_false hc10 | replace hc10 := Z.nd_true hc10 | replace hc10 := Z.nd_false hc10 | replace hc10 := Z.nn_true hc10 | replace hc10 := Z.nn_false hc10 | replace hc10 := Z.nb_true hc10 | replace hc10 := Z.nb_false hc10)
    rw [hh] at hc10; cases hc10


theorem set_spec (w0 : World) (ab : Nat) (A : Ar) (i : Int) (m : Node) (hb : -2147483648 ≤ i ∧ i ≤ 2147483647) : Z.FnD Try.prog w0 28 [.pointer (some ⟨ab, 0, none⟩), .int .i32 i, .agg m.c.toArray] [Arena ab A] (.int .i64 (A.err i)) [Arena ab (A.set i m)] := by
  by_cases h : 1 ≤ i ∧ i ≤ A.nodes.length
  · rw [set_in h, err_in h]; exact set_in_spec w0 ab A i m hb h
  · rw [set_out h, err_out h]; exact set_out_spec w0 ab A i m hb h


theorem setx_spec (w0 : World) (ab : Nat) (A : Ar) (i l r c s mn mx : Int) (k : Bool) (hb : -2147483648 ≤ i ∧ i ≤ 2147483647) : Z.FnD Try.prog w0 28 [.pointer (some ⟨ab, 0, none⟩), .int .i32 i, .agg #[.int .i32 l, .int .i32 r, .int .i64 c, .int .i64 s, .int .i64 mn, .int .i64 mx, .bool k]] [Arena ab A] (.int .i64 (A.err i)) [Arena ab (A.set i ⟨l, r, ⟨c, s, mn, mx⟩, k⟩)] := set_spec w0 ab A i ⟨l, r, ⟨c, s, mn, mx⟩, k⟩ hb

end Go.Proofs.Ytggndcaehjdklaa
