/- Rows: the sort by versions. -/
import Derived.Test.YtleofndjeekalaaS1
import Derived.Test.YtleofndjeekalaaC2
import Derived.KernelRfl
namespace Go.Proofs.Ytleofndjeekalaa
open Go Go.RowKit
set_option maxHeartbeats 4000000 in
set_option maxRecDepth 100000 in
theorem isNaN_spec (w0 : World) (x : Int) : Z.FnD Try.prog w0 43 [.int .i64 x] [] (.bool false) [] := by
  refine Z.Fn.fnD ?_
  refine Z.fn_enter (n := 6) Try.func43 rfl (by rfl) (by rfl) (fun Fr => ?_)
  refine Z.j_app (by repeat (first | exact Z.App.nil | apply Z.App.cons)) ?_
  refine Z.j_seq ?_
  refine Z.j_region ?_
  refine Z.s_val (Z.pv_assign rfl) ?_
  refine Z.j_nil ?_
  refine Z.j_then ?_
  refine Z.j_seq ?_
  refine Z.j_region ?_
  refine Z.s_val (Z.pv_move rfl) ?_
  refine Z.s_val (Z.pv_move rfl) ?_
  refine Z.s_val (Z.pv_neq rfl rfl) ?_
  refine Z.s_val (Z.pv_assign rfl) ?_
  refine Z.j_nil ?_
  refine Z.j_then ?_
  refine Z.j_ret ?_
  refine Z.j_done_ret (Z.rv1 (Z.rv_tmp (t := 2) rfl)) ?_
  exact Z.post_of ⟨by simp, rfl⟩ (by repeat (first | with_reducible exact Z.Takes.nil | (apply Z.Takes.cons; (repeat (first | with_reducible exact Z.Take.here | apply Z.Take.there))))) (by repeat (first | with_reducible exact Z.Drop.nil | apply Z.Drop.cons))

set_option maxHeartbeats 4000000 in
set_option maxRecDepth 100000 in
theorem compare_spec (w0 : World) (x y : Int) : Z.FnD Try.prog w0 36 [.int .i64 x, .int .i64 y] [] (.int .i64 (cmpI x y)) [] := by
  refine Z.Fn.fnD ?_
  refine Z.fn_enter (n := 20) Try.func36 rfl (by rfl) (by rfl) (fun Fr => ?_)
  refine Z.j_app (by repeat (first | exact Z.App.nil | apply Z.App.cons)) ?_
  refine Z.j_seq ?_
  refine Z.j_region ?_
  refine Z.s_val (Z.pv_assign rfl) ?_
  refine Z.j_nil ?_
  refine Z.j_then ?_
  refine Z.j_seq ?_
  refine Z.j_region ?_
  refine Z.s_val (Z.pv_move rfl) ?_
  refine Z.s_callD rfl rfl rfl isFn43 (by repeat (first | with_reducible exact Z.Takes.nil | (apply Z.Takes.cons; (repeat (first | with_reducible exact Z.Take.here | apply Z.Take.there))))) (by repeat (first | exact Z.App.nil | apply Z.App.cons)) (isNaN_spec _ _) ?_
  refine Z.s_val (Z.pv_assign rfl) ?_
  refine Z.j_nil ?_
  refine Z.j_then ?_
  refine Z.j_seq ?_
  refine Z.j_region ?_
  refine Z.s_val (Z.pv_move rfl) ?_
  refine Z.s_callD rfl rfl rfl isFn43 (by repeat (first | with_reducible exact Z.Takes.nil | (apply Z.Takes.cons; (repeat (first | with_reducible exact Z.Take.here | apply Z.Take.there))))) (by repeat (first | exact Z.App.nil | apply Z.App.cons)) (isNaN_spec _ _) ?_
  refine Z.s_val (Z.pv_assign rfl) ?_
  refine Z.j_nil ?_
  refine Z.j_then ?_
  refine Z.j_seq ?_
  refine Z.j_seq ?_
  refine Z.j_region ?_
  refine Z.s_val (Z.pv_move rfl) ?_
  refine Z.j_nil ?_
  refine Z.j_then ?_
  refine Z.j_cond rfl (fun hc11 => ?_) (fun hc11 => ?_)
  · exfalso; first | (cases hc11; done) | (simp at hc11; done) | (simp at hc11; omega) | (replace hc11 := of_decide_eq_true hc11; contradiction) | (replace hc11 := of_decide_eq_false hc11; contradiction)
  · try (with_reducible first | replace hc11 := of_decide_eq_true hc11 | replace hc11 := of_decide_eq_false hc11 | replace hc11 := Z.nd_true hc11 | replace hc11 := Z.nd_false hc11 | replace hc11 := Z.nn_true hc11 | replace hc11 := Z.nn_false hc11 | replace hc11 := Z.nb_true hc11 | replace hc11 := Z.nb_false hc11)
    first
    | (exfalso; first | (cases hc11; done) | omega)
    | skip
      refine Z.j_skip ?_
      refine Z.j_then ?_
      refine Z.j_seq ?_
      refine Z.j_seq ?_
      refine Z.j_region ?_
      refine Z.s_val (Z.pv_move rfl) ?_
      refine Z.j_nil ?_
      refine Z.j_then ?_
      refine Z.j_cond rfl (fun hc13 => ?_) (fun hc13 => ?_)
      · exfalso; first | (cases hc13; done) | (simp at hc13; done) | (simp at hc13; omega) | (replace hc13 := of_decide_eq_true hc13; contradiction) | (replace hc13 := of_decide_eq_false hc13; contradiction)
      · try (with_reducible first | replace hc13 := of_decide_eq_true hc13 | replace hc13 := of_decide_eq_false hc13 | replace hc13 := Z.nd_true hc13 | replace hc13 := Z.nd_false hc13 | replace hc13 := Z.nn_true hc13 | replace hc13 := Z.nn_false hc13 | replace hc13 := Z.nb_true hc13 | replace hc13 := Z.nb_false hc13)
        first
        | (exfalso; first | (cases hc13; done) | omega)
        | skip
          refine Z.j_skip ?_
          refine Z.j_then ?_
          refine Z.j_seq ?_
          refine Z.j_seq ?_
          refine Z.j_region ?_
          refine Z.s_val (Z.pv_move rfl) ?_
          refine Z.s_val (Z.pv_move rfl) ?_
          refine Z.s_val (Z.pv_lss rfl rfl) ?_
          refine Z.j_nil ?_
          refine Z.j_then ?_
          refine Z.j_cond rfl (fun hc16 => ?_) (fun hc16 => ?_)
          · try (with_reducible first | replace hc16 := of_decide_eq_true hc16 | replace hc16 := of_decide_eq_false hc16 | replace hc16 := Z.nd_true hc16 | replace hc16 := Z.nd_false hc16 | replace hc16 := Z.nn_true hc16 | replace hc16 := Z.nn_false hc16 | replace hc16 := Z.nb_true hc16 | replace hc16 := Z.nb_false hc16)
            first
            | (exfalso; first | (cases hc16; done) | omega)
            | skip
              refine Z.j_seq ?_
              refine Z.j_region ?_
              refine Z.s_val (Z.pv_assign rfl) ?_
              refine Z.j_nil ?_
              refine Z.j_then ?_
              refine Z.j_ret ?_
              refine Z.j_then_ret ?_
              refine Z.j_done_ret (Z.rv1 (Z.rv_tmp (t := 4) rfl)) ?_
              exact Z.post_of ⟨by unfold cmpI; first | rw [if_pos hc16] | rw [if_neg hc16, if_pos hc19] | rw [if_neg hc16, if_neg hc19], rfl⟩ (by repeat (first | with_reducible exact Z.Takes.nil | (apply Z.Takes.cons; (repeat (first | with_reducible exact Z.Take.here | apply Z.Take.there))))) (by repeat (first | with_reducible exact Z.Drop.nil | apply Z.Drop.cons))
          · try (with_reducible first | replace hc16 := of_decide_eq_true hc16 | replace hc16 := of_decide_eq_false hc16 | replace hc16 := Z.nd_true hc16 | replace hc16 := Z.nd_false hc16 | replace hc16 := Z.nn_true hc16 | replace hc16 := Z.nn_false hc16 | replace hc16 := Z.nb_true hc16 | replace hc16 := Z.nb_false hc16)
            first
            | (exfalso; first | (cases hc16; done) | omega)
            | skip
              refine Z.j_skip ?_
              refine Z.j_then ?_
              refine Z.j_seq ?_
              refine Z.j_seq ?_
              refine Z.j_region ?_
              refine Z.s_val (Z.pv_move rfl) ?_
              refine Z.s_val (Z.pv_move rfl) ?_
              refine Z.s_val (Z.pv_gtr rfl rfl) ?_
              refine Z.j_nil ?_
              refine Z.j_then ?_
              refine Z.j_cond rfl (fun hc19 => ?_) (fun hc19 => ?_)
              · try (with_reducible first | replace hc19 := of_decide_eq_true hc19 | replace hc19 := of_decide_eq_false hc19 | replace hc19 := Z.nd_true hc19 | replace hc19 := Z.nd_false hc19 | replace hc19 := Z.nn_true hc19 | replace hc19 := Z.nn_false hc19 | replace hc19 := Z.nb_true hc19 | replace hc19 := Z.nb_false hc19)
                first
                | (exfalso; first | (cases hc19; done) | omega)
                | skip
                  refine Z.j_seq ?_
                  refine Z.j_region ?_
                  refine Z.s_val (Z.pv_assign rfl) ?_
                  refine Z.j_nil ?_
                  refine Z.j_then ?_
                  refine Z.j_ret ?_
                  refine Z.j_then_ret ?_
                  refine Z.j_done_ret (Z.rv1 (Z.rv_tmp (t := 4) rfl)) ?_
                  exact Z.post_of ⟨by unfold cmpI; first | rw [if_pos hc16] | rw [if_neg hc16, if_pos hc19] | rw [if_neg hc16, if_neg hc19], rfl⟩ (by repeat (first | with_reducible exact Z.Takes.nil | (apply Z.Takes.cons; (repeat (first | with_reducible exact Z.Take.here | apply Z.Take.there))))) (by repeat (first | with_reducible exact Z.Drop.nil | apply Z.Drop.cons))
              · try (with_reducible first | replace hc19 := of_decide_eq_true hc19 | replace hc19 := of_decide_eq_false hc19 | replace hc19 := Z.nd_true hc19 | replace hc19 := Z.nd_false hc19 | replace hc19 := Z.nn_true hc19 | replace hc19 := Z.nn_false hc19 | replace hc19 := Z.nb_true hc19 | replace hc19 := Z.nb_false hc19)
                first
                | (exfalso; first | (cases hc19; done) | omega)
                | skip
                  refine Z.j_skip ?_
                  refine Z.j_then ?_
                  refine Z.j_seq ?_
                  refine Z.j_region ?_
                  refine Z.s_val (Z.pv_assign rfl) ?_
                  refine Z.j_nil ?_
                  refine Z.j_then ?_
                  refine Z.j_ret ?_
                  refine Z.j_done_ret (Z.rv1 (Z.rv_tmp (t := 4) rfl)) ?_
                  exact Z.post_of ⟨by unfold cmpI; first | rw [if_pos hc16] | rw [if_neg hc16, if_pos hc19] | rw [if_neg hc16, if_neg hc19], rfl⟩ (by repeat (first | with_reducible exact Z.Takes.nil | (apply Z.Takes.cons; (repeat (first | with_reducible exact Z.Take.here | apply Z.Take.there))))) (by repeat (first | with_reducible exact Z.Drop.nil | apply Z.Drop.cons))

set_option maxHeartbeats 4000000 in
set_option maxRecDepth 100000 in
theorem cmp_spec (w0 : World) (b1 rb vb clock : Nat) (bs : List Nat) (ver : VM) (e1 e2 : Value) (h1 : Z.Ro w0 b1 0 [.pointer (some ⟨rb, 0, none⟩)]) (h2 : Z.Ro w0 rb 0 [.map (some vb), e1, e2]) (hk : Z.BOK ver bs clock) (hvb : vb < w0.heap.size) (hm : w0.heap[vb]? = some (.map (Z.ents Cell.e (Value.int .i64) ver bs).toArray clock)) (xl xk yl yk : Int) : Z.FnD Try.prog w0 35 [.agg #[.int .i64 xl, .int .u32 xk], .agg #[.int .i64 yl, .int .u32 yk], .pointer (some ⟨b1, 0, none⟩)] [] (.int .i64 (cfV ver ⟨xl, xk⟩ ⟨yl, yk⟩)) [] := by
  refine Z.Fn.fnD ?_
  refine Z.fn_enter (n := 19) Try.func35 rfl (by rfl) (by rfl) (fun Fr => ?_)
  refine Z.j_app (by repeat (first | exact Z.App.nil | apply Z.App.cons)) ?_
  refine Z.j_seq ?_
  refine Z.j_region ?_
  refine Z.s_box rfl (fun b3 => ?_)
  refine Z.s_box rfl (fun b4 => ?_)
  refine Z.s_val (Z.pv_assign rfl) ?_
  refine Z.j_nil ?_
  refine Z.j_then ?_
  refine Z.j_seq ?_
  refine Z.j_draw (vals := [_, _, _, _, _, _, _, _, _, _, _, _, _, _]) 14 (by kernel_rfl) (by kernel_rfl) rfl (by rfl) (Z.heads_cons (Z.hq_val (Z.pv_load1r (v := .pointer (some ⟨rb, 0, none⟩)) (o := 0) (j := 0) (by rfl) h1 (by rfl) Try.isAgg51 (by rfl))) (Z.heads_cons (Z.hq_val (Z.pv_nil (by rfl))) (Z.heads_cons (Z.hq_val (Z.pv_fieldAddr (o' := 0) (by rfl) Try.underlying29 (by rfl) (by exact Try.sizeOf26) (by rfl))) (Z.heads_cons (Z.hq_val (Z.pv_load1r (v := .map (some vb)) (o := 0) (j := 0) (by rfl) h2 (by rfl) Try.isAgg26 (by rfl))) (Z.heads_cons (Z.hq_val (Z.pv_loadA (by rfl) (by repeat (first | with_reducible exact Z.Take.here | apply Z.Take.there)) Try.isAgg36 (by exact Try.sizeOf36) (by rfl))) (Z.heads_cons (Z.hq_val (Z.pv_lookupR (k := (⟨xl, xk⟩ : Cell)) (venc := Value.int .i64) (m := ver) 0 hk hvb hm (by rfl) (by rfl) Try.underlying26 kCell Try.zeroValue3)) (Z.heads_cons (Z.hq_val (Z.pv_load1r (v := .pointer (some ⟨rb, 0, none⟩)) (o := 0) (j := 0) (by rfl) h1 (by rfl) Try.isAgg51 (by rfl))) (Z.heads_cons (Z.hq_val (Z.pv_nil (by rfl))) (Z.heads_cons (Z.hq_val (Z.pv_fieldAddr (o' := 0) (by rfl) Try.underlying29 (by rfl) (by exact Try.sizeOf26) (by rfl))) (Z.heads_cons (Z.hq_val (Z.pv_load1r (v := .map (some vb)) (o := 0) (j := 0) (by rfl) h2 (by rfl) Try.isAgg26 (by rfl))) (Z.heads_cons (Z.hq_val (Z.pv_loadA (by rfl) (by repeat (first | with_reducible exact Z.Take.here | apply Z.Take.there)) Try.isAgg36 (by exact Try.sizeOf36) (by rfl))) (Z.heads_cons (Z.hq_val (Z.pv_lookupR (k := (⟨yl, yk⟩ : Cell)) (venc := Value.int .i64) (m := ver) 0 hk hvb hm (by rfl) (by rfl) Try.underlying26 kCell Try.zeroValue3)) (Z.heads_cons (Z.hq_callD (by rfl) (by rfl) (by rfl) isFn36 (by repeat (first | with_reducible exact Z.Takes.nil | (apply Z.Takes.cons; (repeat (first | with_reducible exact Z.Take.here | apply Z.Take.there))))) (by repeat (first | with_reducible exact Z.Takes.nil | (apply Z.Takes.cons; (repeat (first | with_reducible exact Z.Take.here | apply Z.Take.there))))) (compare_spec _ _ _)) (Z.heads_cons (Z.hq_val (Z.pv_assign (by rfl))) Z.heads_nil)))))))))))))) ?_
  refine Z.j_nil ?_
  refine Z.j_then ?_
  refine Z.j_ret ?_
  refine Z.j_done_ret (Z.rv1 (Z.rv_tmp (t := 5) rfl)) ?_
  exact Z.post_of ⟨rfl, rfl⟩ (by repeat (first | with_reducible exact Z.Takes.nil | (apply Z.Takes.cons; (repeat (first | with_reducible exact Z.Take.here | apply Z.Take.there))))) (by repeat (first | with_reducible exact Z.Drop.nil | apply Z.Drop.cons))

set_option maxHeartbeats 4000000 in
set_option maxRecDepth 100000 in
theorem len64_spec (w0 : World) : Z.Fn Try.prog w0 56 [.int .u64 0] [] (fun v Q => ∃ r, v = .int .i64 r ∧ Q = []) := by
  refine Z.fn_enter (n := 25) Try.func56 rfl (by rfl) (by rfl) (fun Fr => ?_)
  refine Z.j_app (by repeat (first | exact Z.App.nil | apply Z.App.cons)) ?_
  refine Z.j_seq ?_
  refine Z.j_region ?_
  refine Z.s_val (Z.pv_assign rfl) ?_
  refine Z.j_nil ?_
  refine Z.j_then ?_
  refine Z.j_seq ?_
  refine Z.j_seq ?_
  refine Z.j_region ?_
  refine Z.s_val (Z.pv_move rfl) ?_
  refine Z.s_val (Z.pv_geq rfl rfl) ?_
  refine Z.j_nil ?_
  refine Z.j_then ?_
  refine Z.j_cond rfl (fun hc4 => ?_) (fun hc4 => ?_)
  · exfalso; first | (cases hc4; done) | (simp at hc4; done) | (simp at hc4; omega) | (replace hc4 := of_decide_eq_true hc4; contradiction) | (replace hc4 := of_decide_eq_false hc4; contradiction)
  · try (with_reducible first | replace hc4 := of_decide_eq_true hc4 | replace hc4 := of_decide_eq_false hc4 | replace hc4 := Z.nd_true hc4 | replace hc4 := Z.nd_false hc4 | replace hc4 := Z.nn_true hc4 | replace hc4 := Z.nn_false hc4 | replace hc4 := Z.nb_true hc4 | replace hc4 := Z.nb_false hc4)
    first
    | (exfalso; first | (cases hc4; done) | omega)
    | skip
      refine Z.j_skip ?_
      refine Z.j_then ?_
      refine Z.j_seq ?_
      refine Z.j_seq ?_
      refine Z.j_region ?_
      refine Z.s_val (Z.pv_move rfl) ?_
      refine Z.s_val (Z.pv_geq rfl rfl) ?_
      refine Z.j_nil ?_
      refine Z.j_then ?_
      refine Z.j_cond rfl (fun hc8 => ?_) (fun hc8 => ?_)
      · exfalso; first | (cases hc8; done) | (simp at hc8; done) | (simp at hc8; omega) | (replace hc8 := of_decide_eq_true hc8; contradiction) | (replace hc8 := of_decide_eq_false hc8; contradiction)
      · try (with_reducible first | replace hc8 := of_decide_eq_true hc8 | replace hc8 := of_decide_eq_false hc8 | replace hc8 := Z.nd_true hc8 | replace hc8 := Z.nd_false hc8 | replace hc8 := Z.nn_true hc8 | replace hc8 := Z.nn_false hc8 | replace hc8 := Z.nb_true hc8 | replace hc8 := Z.nb_false hc8)
        first
        | (exfalso; first | (cases hc8; done) | omega)
        | skip
          refine Z.j_skip ?_
          refine Z.j_then ?_
          refine Z.j_seq ?_
          refine Z.j_seq ?_
          refine Z.j_region ?_
          refine Z.s_val (Z.pv_move rfl) ?_
          refine Z.s_val (Z.pv_geq rfl rfl) ?_
          refine Z.j_nil ?_
          refine Z.j_then ?_
          refine Z.j_cond rfl (fun hc14 => ?_) (fun hc14 => ?_)
          · exfalso; first | (cases hc14; done) | (simp at hc14; done) | (simp at hc14; omega) | (replace hc14 := of_decide_eq_true hc14; contradiction) | (replace hc14 := of_decide_eq_false hc14; contradiction)
          · try (with_reducible first | replace hc14 := of_decide_eq_true hc14 | replace hc14 := of_decide_eq_false hc14 | replace hc14 := Z.nd_true hc14 | replace hc14 := Z.nd_false hc14 | replace hc14 := Z.nn_true hc14 | replace hc14 := Z.nn_false hc14 | replace hc14 := Z.nb_true hc14 | replace hc14 := Z.nb_false hc14)
            first
            | (exfalso; first | (cases hc14; done) | omega)
            | skip
              refine Z.j_skip ?_
              refine Z.j_then ?_
              refine Z.j_seq ?_
              refine Z.j_region ?_
              refine Z.s_val (Z.pv_move rfl) ?_
              refine Z.s_val (Z.pv_move rfl) ?_
              refine Z.s_val (Z.pv_conv rfl Try.underlying96 rfl Try.underlying5 (by first | exact IntWalk.u8_in _ (by omega) | rfl)) ?_
              refine Z.s_indexS rfl rfl (by omega) Try.underlying9 (Nat.lt_of_lt_of_le (m := 256) (by omega) (by decide)) (fun c22 => ?_)
              have hc22 := c22.toNat_lt
              refine Z.s_val (Z.pv_conv rfl Try.underlying5 rfl Try.underlying3 (by first | exact IntWalk.i64_in _ (by omega) | rfl)) ?_
              refine Z.s_val (Z.pv_add rfl rfl (by first | exact IntWalk.i64_in _ (by omega) | rfl)) ?_
              refine Z.s_val (Z.pv_assign rfl) ?_
              refine Z.j_nil ?_
              refine Z.j_then ?_
              refine Z.j_ret ?_
              refine Z.j_done_ret (Z.rv1 (Z.rv_tmp (t := 2) rfl)) ?_
              exact Z.post_of ⟨_, rfl, rfl⟩ (by repeat (first | with_reducible exact Z.Takes.nil | (apply Z.Takes.cons; (repeat (first | with_reducible exact Z.Take.here | apply Z.Take.there))))) (by repeat (first | with_reducible exact Z.Drop.nil | apply Z.Drop.cons))

set_option maxHeartbeats 4000000 in
set_option maxRecDepth 100000 in
theorem blen_spec (w0 : World) : Z.Fn Try.prog w0 42 [.int .u64 0] [] (fun v Q => ∃ r, v = .int .i64 r ∧ Q = []) := by
  refine Z.fn_enter (n := 8) Try.func42 rfl (by rfl) (by rfl) (fun Fr => ?_)
  refine Z.j_app (by repeat (first | exact Z.App.nil | apply Z.App.cons)) ?_
  refine Z.j_seq ?_
  refine Z.j_region ?_
  refine Z.s_val (Z.pv_assign rfl) ?_
  refine Z.j_nil ?_
  refine Z.j_then ?_
  refine Z.j_seq ?_
  refine Z.j_cond rfl (fun hcNone => ?_) (fun hcNone => ?_)
  · exfalso; first | (cases hcNone; done) | (simp at hcNone; done) | (simp at hcNone; omega) | (replace hcNone := of_decide_eq_true hcNone; contradiction) | (replace hcNone := of_decide_eq_false hcNone; contradiction)
  · try (with_reducible first | replace hcNone := of_decide_eq_true hcNone | replace hcNone := of_decide_eq_false hcNone | replace hcNone := Z.nd_true hcNone | replace hcNone := Z.nd_false hcNone | replace hcNone := Z.nn_true hcNone | replace hcNone := Z.nn_false hcNone | replace hcNone := Z.nb_true hcNone | replace hcNone := Z.nb_false hcNone)
    first
    | (exfalso; first | (cases hcNone; done) | omega)
    | skip
      refine Z.j_skip ?_
      refine Z.j_then ?_
      refine Z.j_seq ?_
      refine Z.j_region ?_
      refine Z.s_val (Z.pv_move rfl) ?_
      refine Z.s_call rfl rfl rfl isFn56 (by repeat (first | with_reducible exact Z.Takes.nil | (apply Z.Takes.cons; (repeat (first | with_reducible exact Z.Take.here | apply Z.Take.there))))) (len64_spec _) ?_
      rintro _ _ ⟨r41, rfl, rfl⟩
      refine Z.j_app (by repeat (first | exact Z.App.nil | apply Z.App.cons)) ?_
      refine Z.s_val (Z.pv_assign rfl) ?_
      refine Z.j_nil ?_
      refine Z.j_then ?_
      refine Z.j_ret ?_
      refine Z.j_done_ret (Z.rv1 (Z.rv_tmp (t := 2) rfl)) ?_
      exact Z.post_of ⟨_, rfl, rfl⟩ (by repeat (first | with_reducible exact Z.Takes.nil | (apply Z.Takes.cons; (repeat (first | with_reducible exact Z.Take.here | apply Z.Take.there))))) (by repeat (first | with_reducible exact Z.Drop.nil | apply Z.Drop.cons))

set_option maxHeartbeats 4000000 in
set_option maxRecDepth 100000 in
theorem ins0_spec (w0 : World) (p : Option Addr) (cap : Nat) (f : Value) : Z.FnD Try.prog w0 47 [.slice p 0 cap, .int .i64 0, .int .i64 0, f] [] (.tuple #[]) [] := by
  refine Z.Fn.fnD ?_
  refine Z.fn_enter (n := 53) Try.func47 rfl (by rfl) (by rfl) (fun Fr => ?_)
  refine Z.j_app (by repeat (first | exact Z.App.nil | apply Z.App.cons)) ?_
  refine Z.j_seq ?_
  refine Z.j_region ?_
  refine Z.s_val (Z.pv_move rfl) ?_
  refine Z.s_val (Z.pv_add rfl rfl (by first | exact IntWalk.i64_in _ (by omega) | rfl)) ?_
  refine Z.s_val (Z.pv_assign rfl) ?_
  refine Z.j_nil ?_
  refine Z.j_then ?_
  refine Z.j_block ?_
  refine Z.j_initF (E' := [(2, .int .i64 0), (8, .int .i64 1)]) (As := []) (Fr := Fr) (by repeat (first | exact trivial | refine ⟨rfl, ?_⟩)) (by repeat (first | with_reducible exact Z.Takes.nil | (apply Z.Takes.cons; (repeat (first | with_reducible exact Z.Take.here | apply Z.Take.there))))) (by repeat (first | with_reducible exact Z.Drop.nil | apply Z.Drop.cons)) ?_
  refine Z.j_loop (X := { x : (Unit) // True }) (fun (x : { x : (Unit) // True }) => [(2, .int .i64 0), (8, .int .i64 1)]) (fun x => (fun (x : { x : (Unit) // True }) => []) x ++ Fr) (fun (x : { x : (Unit) // True }) => 0) ⟨(()), trivial⟩ (fun x => ?_)
  obtain ⟨u, hinv⟩ := x
  have hinv' : True := hinv
  obtain _ := hinv'
  show Z.J _ _ _ ([(2, .int .i64 0), (8, .int .i64 1)]) ([] ++ Fr) _
  refine Z.j_app (by repeat (first | exact Z.App.nil | apply Z.App.cons)) ?_
  refine Z.j_seq ?_
  refine Z.j_seq ?_
  refine Z.j_region ?_
  refine Z.s_val (Z.pv_move rfl) ?_
  refine Z.s_val (Z.pv_move rfl) ?_
  refine Z.s_val (Z.pv_lss rfl rfl) ?_
  refine Z.j_nil ?_
  refine Z.j_then ?_
  refine Z.j_cond rfl (fun hc14 => ?_) (fun hc14 => ?_)
  · exfalso; first | (cases hc14; done) | (simp at hc14; done) | (simp at hc14; omega) | (replace hc14 := of_decide_eq_true hc14; contradiction) | (replace hc14 := of_decide_eq_false hc14; contradiction)
  · try (with_reducible first | replace hc14 := of_decide_eq_true hc14 | replace hc14 := of_decide_eq_false hc14 | replace hc14 := Z.nd_true hc14 | replace hc14 := Z.nd_false hc14 | replace hc14 := Z.nn_true hc14 | replace hc14 := Z.nn_false hc14 | replace hc14 := Z.nb_true hc14 | replace hc14 := Z.nb_false hc14)
    first
    | (exfalso; first | (cases hc14; done) | omega)
    | skip
      refine Z.j_exit ?_
      refine Z.j_then_exit ?_
      refine Z.j_then_exit ?_
      refine Z.j_blk_here rfl ?_
      refine Z.j_done Z.rv0 ?_
      exact Z.post_of ⟨rfl, rfl⟩ (by repeat (first | with_reducible exact Z.Takes.nil | (apply Z.Takes.cons; (repeat (first | with_reducible exact Z.Take.here | apply Z.Take.there))))) (by repeat (first | with_reducible exact Z.Drop.nil | apply Z.Drop.cons))

set_option maxHeartbeats 4000000 in
set_option maxRecDepth 100000 in
theorem pdq0_spec (w0 : World) (p : Option Addr) (cap : Nat) (lim : Int) (f : Value) : Z.FnD Try.prog w0 41 [.slice p 0 cap, .int .i64 0, .int .i64 0, .int .i64 lim, f] [] (.tuple #[]) [] := by
  refine Z.Fn.fnD ?_
  refine Z.fn_enter (n := 148) Try.func41 rfl (by rfl) (by rfl) (fun Fr => ?_)
  refine Z.j_app (by repeat (first | exact Z.App.nil | apply Z.App.cons)) ?_
  refine Z.j_seq ?_
  refine Z.j_region ?_
  refine Z.s_val (Z.pv_assign rfl) ?_
  refine Z.j_nil ?_
  refine Z.j_then ?_
  refine Z.j_seq ?_
  refine Z.j_region ?_
  refine Z.s_val (Z.pv_assign rfl) ?_
  refine Z.j_nil ?_
  refine Z.j_then ?_
  refine Z.j_block ?_
  refine Z.j_initF (E' := [(0, .slice p 0 cap), (1, .int .i64 0), (2, .int .i64 0), (4, f)]) (As := []) (Fr := Fr) (by repeat (first | exact trivial | refine ⟨rfl, ?_⟩)) (by repeat (first | with_reducible exact Z.Takes.nil | (apply Z.Takes.cons; (repeat (first | with_reducible exact Z.Take.here | apply Z.Take.there))))) (by repeat (first | with_reducible exact Z.Drop.nil | apply Z.Drop.cons)) ?_
  refine Z.j_loop (X := { x : (Unit) // True }) (fun (x : { x : (Unit) // True }) => [(0, .slice p 0 cap), (1, .int .i64 0), (2, .int .i64 0), (4, f)]) (fun x => (fun (x : { x : (Unit) // True }) => []) x ++ Fr) (fun (x : { x : (Unit) // True }) => 0) ⟨(()), trivial⟩ (fun x => ?_)
  obtain ⟨u, hinv⟩ := x
  have hinv' : True := hinv
  obtain _ := hinv'
  show Z.J _ _ _ ([(0, .slice p 0 cap), (1, .int .i64 0), (2, .int .i64 0), (4, f)]) ([] ++ Fr) _
  refine Z.j_app (by repeat (first | exact Z.App.nil | apply Z.App.cons)) ?_
  refine Z.j_block ?_
  refine Z.j_seq ?_
  refine Z.j_region ?_
  refine Z.s_val (Z.pv_move rfl) ?_
  refine Z.s_val (Z.pv_move rfl) ?_
  refine Z.s_val (Z.pv_sub rfl rfl (by first | exact IntWalk.i64_in _ (by omega) | rfl)) ?_
  refine Z.s_val (Z.pv_assign rfl) ?_
  refine Z.j_nil ?_
  refine Z.j_then ?_
  refine Z.j_seq ?_
  refine Z.j_seq ?_
  refine Z.j_region ?_
  refine Z.s_val (Z.pv_move rfl) ?_
  refine Z.s_val (Z.pv_leq rfl rfl) ?_
  refine Z.j_nil ?_
  refine Z.j_then ?_
  refine Z.j_cond rfl (fun hc25 => ?_) (fun hc25 => ?_)
  · try (with_reducible first | replace hc25 := of_decide_eq_true hc25 | replace hc25 := of_decide_eq_false hc25 | replace hc25 := Z.nd_true hc25 | replace hc25 := Z.nd_false hc25 | replace hc25 := Z.nn_true hc25 | replace hc25 := Z.nn_false hc25 | replace hc25 := Z.nb_true hc25 | replace hc25 := Z.nb_false hc25)
    first
    | (exfalso; first | (cases hc25; done) | omega)
    | skip
      refine Z.j_seq ?_
      refine Z.j_region ?_
      refine Z.s_val (Z.pv_move rfl) ?_
      refine Z.s_val (Z.pv_move rfl) ?_
      refine Z.s_val (Z.pv_move rfl) ?_
      refine Z.s_val (Z.pv_move rfl) ?_
      refine Z.s_callD rfl rfl rfl isFn47 (by repeat (first | with_reducible exact Z.Takes.nil | (apply Z.Takes.cons; (repeat (first | with_reducible exact Z.Take.here | apply Z.Take.there))))) (by repeat (first | exact Z.App.nil | apply Z.App.cons)) (ins0_spec _ _ _ _) ?_
      refine Z.j_nil ?_
      refine Z.j_then ?_
      refine Z.j_ret ?_
      refine Z.j_then_ret ?_
      refine Z.j_blk_ret ?_
      refine Z.j_then_ret ?_
      refine Z.j_blk_ret ?_
      refine Z.j_done_ret Z.rv0 ?_
      exact Z.post_of ⟨rfl, rfl⟩ (by repeat (first | with_reducible exact Z.Takes.nil | (apply Z.Takes.cons; (repeat (first | with_reducible exact Z.Take.here | apply Z.Take.there))))) (by repeat (first | with_reducible exact Z.Drop.nil | apply Z.Drop.cons))
  · exfalso; first | (cases hc25; done) | (simp at hc25; done) | (simp at hc25; omega) | (replace hc25 := of_decide_eq_true hc25; contradiction) | (replace hc25 := of_decide_eq_false hc25; contradiction)

set_option maxHeartbeats 4000000 in
set_option maxRecDepth 100000 in
theorem sort0_spec (w0 : World) (p : Option Addr) (cap : Nat) (f : Value) : Z.FnD Try.prog w0 34 [.slice p 0 cap, f] [] (.tuple #[]) [] := by
  refine Z.Fn.fnD ?_
  refine Z.fn_enter (n := 14) Try.func34 rfl (by rfl) (by rfl) (fun Fr => ?_)
  refine Z.j_app (by repeat (first | exact Z.App.nil | apply Z.App.cons)) ?_
  refine Z.j_seq ?_
  refine Z.j_region ?_
  refine Z.s_val (Z.pv_move rfl) ?_
  refine Z.s_val (Z.pv_len rfl Try.underlying30) ?_
  refine Z.s_val (Z.pv_assign rfl) ?_
  refine Z.j_nil ?_
  refine Z.j_then ?_
  refine Z.j_region ?_
  refine Z.s_val (Z.pv_move rfl) ?_
  refine Z.s_val (Z.pv_move rfl) ?_
  refine Z.s_val (Z.pv_move rfl) ?_
  refine Z.s_val (Z.pv_conv rfl Try.underlying3 rfl Try.underlying82 (by first | exact IntWalk.u64_in _ (by omega) | rfl)) ?_
  refine Z.s_call rfl rfl rfl isFn42 (by repeat (first | with_reducible exact Z.Takes.nil | (apply Z.Takes.cons; (repeat (first | with_reducible exact Z.Take.here | apply Z.Take.there))))) (blen_spec _) ?_
  rintro _ _ ⟨r30, rfl, rfl⟩
  refine Z.j_app (by repeat (first | exact Z.App.nil | apply Z.App.cons)) ?_
  refine Z.s_val (Z.pv_move rfl) ?_
  refine Z.s_callD rfl rfl rfl isFn41 (by repeat (first | with_reducible exact Z.Takes.nil | (apply Z.Takes.cons; (repeat (first | with_reducible exact Z.Take.here | apply Z.Take.there))))) (by repeat (first | exact Z.App.nil | apply Z.App.cons)) (pdq0_spec _ _ _ _ _) ?_
  refine Z.j_nil ?_
  refine Z.j_done Z.rv0 ?_
  exact Z.post_of ⟨rfl, rfl⟩ (by repeat (first | with_reducible exact Z.Takes.nil | (apply Z.Takes.cons; (repeat (first | with_reducible exact Z.Take.here | apply Z.Take.there))))) (by repeat (first | with_reducible exact Z.Drop.nil | apply Z.Drop.cons))


open Go.Sort Go.Proofs Go.Shelf Go.Lib in
theorem sort1_spec (w0 : World) (db n cap b1 rb vb : Nat) (r : RSt) (cs : List Cell) (sp : List Value) (e1 e2 : Value) (hr : r.ok) (hn : cs.length = n) (hcs : cs.Perm (Z.ks r.ver)) :
    Z.FnD Try.prog w0 34 [.slice (some ⟨db, 0, none⟩) n cap, .func (.func 35) #[] #[.pointer (some ⟨b1, 0, none⟩)]] [Z.cl db 36 (cs.flatMap Cell.c ++ sp), Z.cl b1 51 [.pointer (some ⟨rb, 0, none⟩)], Z.cl rb 29 [.map (some vb), e1, e2], Z.MapP vb Cell.e (Value.int .i64) r.ver] (.tuple #[])
      [Z.cl db 36 ((sortC r.ver).flatMap Cell.c ++ sp), Z.cl b1 51 [.pointer (some ⟨rb, 0, none⟩)], Z.cl rb 29 [.map (some vb), e1, e2], Z.MapP vb Cell.e (Value.int .i64) r.ver] := fun Fr w hs => by
  have hs' : Z.St w0 (Z.cl db 36 (cs.flatMap Cell.c ++ sp) :: Z.cl b1 51 [.pointer (some ⟨rb, 0, none⟩)] :: Z.cl rb 29 [.map (some vb), e1, e2] :: Z.MapP vb Cell.e (Value.int .i64) r.ver :: Fr) w := hs
  have hdb := hs'.getc .here
  have hb1 := hs'.getc (.there .here)
  have hrb := hs'.getc (.there (.there .here))
  obtain ⟨bs, clock, hk, hvb, _⟩ := (hs'.take (.there (.there (.there .here)))).mapP
  have lt : ∀ {j : Nat} {o : Obj}, w.heap[j]? = some o → j < w.heap.size := fun {j o} h => by
    rcases Nat.lt_or_ge j w.heap.size with h' | h'
    · exact h'
    · rw [Array.getElem?_eq_none h'] at h; cases h
  have n1 : b1 ≠ db := fun e => by rw [e, hdb] at hb1; simp at hb1
  have n2 : rb ≠ db := fun e => by rw [e, hdb] at hrb; simp at hrb
  have n3 : vb ≠ db := fun e => by rw [e, hdb] at hvb; simp at hvb
  have hsz : cs.toArray.size = n := by simpa using hn
  have hlen : cs.length < 1001 := by
    have h1 := hcs.length_eq
    have h2 := hr.len; have h3 := hr.l1
    simp at h1; omega
  have eg : ∀ args w, (callFunc 35 args).run Try.prog w = .ok (.enter 35 args) w := isFn35
  have hcmp : CmpLays Try.prog 35 #[.pointer (some ⟨b1, 0, none⟩)] Cell.c 2 (cfV r.ver) db 0 cs.toArray.size w := fun m os dk hdk x y => by
    obtain ⟨dl, rfl⟩ : ∃ dl : List Cell, dk = dl.toArray := ⟨dk.toList, by simp⟩
    have hl : dl.length = cs.length := by simpa using hdk
    obtain ⟨_, _, _, g4, _, g6, _⟩ := sortW (m := m) (os := os) hdb hl
    have q1 : (sortWorldK Cell.c 2 w db 0 m dl.toArray os).heap[b1]? = some (.cells [.pointer (some ⟨rb, 0, none⟩)].toArray 51 (0, 0)) := (g6 b1 (lt hb1) n1).trans hb1
    have q2 : (sortWorldK Cell.c 2 w db 0 m dl.toArray os).heap[rb]? = some (.cells [.map (some vb), e1, e2].toArray 29 (0, 0)) := (g6 rb (lt hrb) n2).trans hrb
    have q3 := (g6 vb (lt hvb) n3).trans hvb
    have r1 : Z.Ro (sortWorldK Cell.c 2 w db 0 m dl.toArray os) b1 0 [.pointer (some ⟨rb, 0, none⟩)] := ⟨Nat.lt_of_lt_of_le (lt hb1) g4, fun j v hj => by rw [Z.cell_of_block q1, Nat.zero_add]; exact hj⟩
    have r2 : Z.Ro (sortWorldK Cell.c 2 w db 0 m dl.toArray os) rb 0 [.map (some vb), e1, e2] := ⟨Nat.lt_of_lt_of_le (lt hrb) g4, fun j v hj => by rw [Z.cell_of_block q2, Nat.zero_add]; exact hj⟩
    have hc := cmp_spec (sortWorldK Cell.c 2 w db 0 m dl.toArray os) b1 rb vb clock bs r.ver e1 e2 r1 r2 hk (Nat.lt_of_lt_of_le (lt hvb) g4) q3 x.l x.k y.l y.k
    refine (hc [] _ (Z.St.init _)).mono fun e w' ⟨he, hw⟩ => ⟨he, Z.grow_of hw⟩
  have hcon := AnyQ.slices_SortFunc sortLay 2 Try.isAgg36 Try.sizeOf36 Cell.c Cell.len (fun x v hv => by simp [Cell.c] at hv; rcases hv with rfl | rfl <;> rfl) (cfV r.ver) (swo_cf r.ver) 35 #[.pointer (some ⟨b1, 0, none⟩)] db 0 cap cs.toArray w eg hcmp (holds_cl hdb) (lt hdb) (by simp; omega)
  change Calls Try.prog 34 _ _ _ at hcon
  obtain rfl : n = cs.toArray.size := hsz.symm
  refine hcon.mono fun e w' ⟨he, d', q, os, hp, hsd, hw⟩ => ⟨he, ?_⟩
  obtain ⟨dl, rfl⟩ : ∃ dl : List Cell, d' = dl.toArray := ⟨d'.toList, by simp⟩
  have hl : dl.length = cs.length := by simpa using hp.1
  have hperm : dl.Perm cs := by
    have := hp.2.2
    have h2 : (dl.take cs.length).Perm cs := by simpa using this
    rwa [List.take_of_length_le (by omega)] at h2
  have hsorted : dl.Pairwise (fun a b => fV r.ver a ≤ fV r.ver b) := by
    rw [List.pairwise_iff_getElem]
    intro i j hi hj hij
    have := hsd i j (Nat.zero_le _) hij (by simp; omega)
    rw [ltOf_cf] at this
    simp [hi, hj] at this
    exact this
  have hu := sortC_uniq hr (hperm.trans hcs) hsorted
  subst hu
  obtain ⟨g1, g2, g3, g4, g5, g6, g7⟩ := sortW (m := q) (os := os) hdb hl
  rw [hw]
  exact Z.St.turn (b := db) (o := .cells (cs.flatMap Cell.c ++ sp).toArray 36 (0, 0)) (o' := .cells ((sortC r.ver).flatMap Cell.c ++ sp).toArray 36 (0, 0)) (R := Z.cl b1 51 [.pointer (some ⟨rb, 0, none⟩)] :: Z.cl rb 29 [.map (some vb), e1, e2] :: Z.MapP vb Cell.e (Value.int .i64) r.ver :: Fr) hs' g1 g2 g3 g4 g5 g6 g7

end Go.Proofs.Ytleofndjeekalaa
