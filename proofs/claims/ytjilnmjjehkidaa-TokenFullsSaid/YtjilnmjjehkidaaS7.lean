/- Token: TokenFulls. -/
import Derived.Test.YtjilnmjjehkidaaS5
import Derived.Test.YtjilnmjjehkidaaT4
import Derived.KernelRfl
namespace Go.Proofs.Ytjilnmjjehkidaa
open Go Go.RowKit
set_option maxHeartbeats 4000000 in
set_option maxRecDepth 100000 in
theorem fulls_law (w0 : World) (p1 : Option Addr) (n1 cap1 : Nat) (ds : List Int) (most close : Int) (hds : ds.length = n1) (hp1 : 0 < n1 → ∃ b o, p1 = some ⟨b, o, none⟩ ∧ Z.Ro w0 b o (ds.map (Value.int .u64))) : Z.FnD Try.prog w0 4 [.int .i64 most, .slice p1 n1 cap1, .int .i64 close] [] (.bool true) [] := by
  obtain ⟨hb1, hb2⟩ := and_bd most 7 (by decide) (by decide)
  obtain ⟨mm, hmm⟩ : ∃ mm, Z.bitsOf .and .i64 most 7 = mm := ⟨_, rfl⟩
  rw [hmm] at hb1 hb2
  obtain ⟨m0, hm0⟩ : ∃ m0, 1 + mm = m0 := ⟨_, rfl⟩
  obtain ⟨c3, hc3⟩ : ∃ c3, msk close 3 = c3 := ⟨_, rfl⟩
  refine Z.Fn.fnD ?_
  refine Z.fn_enter (n := 153) Try.func4 rfl (by rfl) (by rfl) (fun Fr => ?_)
  refine Z.j_app (by repeat (first | exact Z.App.nil | apply Z.App.cons)) ?_
  refine Z.j_seq ?_
  refine Z.j_region ?_
  refine Z.s_val (Z.pv_assign rfl) ?_
  refine Z.j_nil ?_
  refine Z.j_then ?_
  refine Z.j_seq ?_
  refine Z.j_seq ?_
  refine Z.j_region ?_
  refine Z.s_callD rfl rfl rfl isFn7 (by repeat (first | with_reducible exact Z.Takes.nil | (apply Z.Takes.cons; (repeat (first | with_reducible exact Z.Take.here | apply Z.Take.there))))) (by repeat (first | exact Z.App.nil | apply Z.App.cons)) (alive_spec _) ?_
  refine Z.s_val (Z.pv_not rfl) ?_
  refine Z.j_nil ?_
  refine Z.j_then ?_
  refine Z.j_cond rfl (fun hc24 => ?_) (fun hc24 => ?_)
  · exfalso; first | (cases hc24; done) | (simp at hc24; done) | (simp at hc24; omega)
  · try (with_reducible first | replace hc24 := of_decide_eq_true hc24 | replace hc24 := of_decide_eq_false hc24 | replace hc24 := Z.nd_true hc24 | replace hc24 := Z.nd_false hc24 | replace hc24 := Z.nn_true hc24 | replace hc24 := Z.nn_false hc24 | replace hc24 := Z.nb_true hc24 | replace hc24 := Z.nb_false hc24)
    first
    | (exfalso; first | (cases hc24; done) | omega)
    | skip
      refine Z.j_skip ?_
      refine Z.j_then ?_
      refine Z.j_seq ?_
      refine Z.j_seq ?_
      refine Z.j_region ?_
      refine Z.s_val (Z.pv_move rfl) ?_
      refine Z.s_val (Z.pv_len rfl Try.underlying42) ?_
      refine Z.s_val (Z.pv_gtr rfl rfl) ?_
      refine Z.j_nil ?_
      refine Z.j_then ?_
      refine Z.j_cond rfl (fun hc27 => ?_) (fun hc27 => ?_)
      · try (with_reducible first | replace hc27 := of_decide_eq_true hc27 | replace hc27 := of_decide_eq_false hc27 | replace hc27 := Z.nd_true hc27 | replace hc27 := Z.nd_false hc27 | replace hc27 := Z.nn_true hc27 | replace hc27 := Z.nn_false hc27 | replace hc27 := Z.nb_true hc27 | replace hc27 := Z.nb_false hc27)
        first
        | (exfalso; first | (cases hc27; done) | omega)
        | skip
          refine Z.j_seq ?_
          refine Z.j_region ?_
          refine Z.s_val (Z.pv_assign rfl) ?_
          refine Z.j_nil ?_
          refine Z.j_then ?_
          refine Z.j_ret ?_
          refine Z.j_then_ret ?_
          refine Z.j_done_ret (Z.rv1 (Z.rv_tmp (t := 6) rfl)) ?_
          exact Z.post_of ⟨by first | rfl | (congr 1; exact decide_eq_true (by omega)), rfl⟩ (by repeat (first | with_reducible exact Z.Takes.nil | (apply Z.Takes.cons; (repeat (first | with_reducible exact Z.Take.here | apply Z.Take.there))))) (by repeat (first | with_reducible exact Z.Drop.nil | apply Z.Drop.cons))
      · try (with_reducible first | replace hc27 := of_decide_eq_true hc27 | replace hc27 := of_decide_eq_false hc27 | replace hc27 := Z.nd_true hc27 | replace hc27 := Z.nd_false hc27 | replace hc27 := Z.nn_true hc27 | replace hc27 := Z.nn_false hc27 | replace hc27 := Z.nb_true hc27 | replace hc27 := Z.nb_false hc27)
        first
        | (exfalso; first | (cases hc27; done) | omega)
        | skip
          refine Z.j_skip ?_
          refine Z.j_then ?_
          refine Z.j_seq ?_
          refine Z.j_region ?_
          refine Z.s_val (Z.pv_move rfl) ?_
          refine Z.s_val (Z.pv_bits rfl rfl hmm) ?_
          refine Z.s_val (Z.pv_is (Z.pv_add rfl rfl (by exact IntWalk.i64_in _ (by omega))) (show _ = Value.int .i64 m0 from by rw [hm0])) ?_
          refine Z.s_val (Z.pv_assign rfl) ?_
          refine Z.j_nil ?_
          refine Z.j_then ?_
          refine Z.j_seq ?_
          refine Z.j_region ?_
          refine Z.s_val (Z.pv_move rfl) ?_
          refine Z.s_call rfl rfl rfl isFn9 (by repeat (first | with_reducible exact Z.Takes.nil | (apply Z.Takes.cons; (repeat (first | with_reducible exact Z.Take.here | apply Z.Take.there))))) (new_spec _ _ _ _ (by omega) (by omega) (span_ok (by decide)) (span_ok (by decide))) ?_
          rintro _ _ ⟨tb, rfl, rfl⟩
          refine Z.j_app (by repeat (first | exact Z.App.nil | apply Z.App.cons)) ?_
          refine Z.s_val (Z.pv_move rfl) ?_
          refine Z.s_val (Z.pv_extract rfl rfl) ?_
          refine Z.s_val (Z.pv_extract rfl rfl) ?_
          refine Z.s_val (Z.pv_assign rfl) ?_
          refine Z.s_val (Z.pv_assign rfl) ?_
          refine Z.j_nil ?_
          refine Z.j_then ?_
          refine Z.j_seq ?_
          refine Z.j_region ?_
          refine Z.s_makeMap (Value.int .u64) (Value.int .i64) (fun hb => ?_)
          refine Z.s_val (Z.pv_assign rfl) ?_
          refine Z.j_nil ?_
          refine Z.j_then ?_
          refine Z.j_seq ?_
          refine Z.j_seq ?_
          refine Z.j_region ?_
          refine Z.s_val (Z.pv_move rfl) ?_
          refine Z.s_val (Z.pv_len rfl Try.underlying42) ?_
          refine Z.s_val (Z.pv_move rfl) ?_
          refine Z.j_nil ?_
          refine Z.j_then ?_
          refine Z.j_block ?_
          refine Z.j_cast (A := TabP tb ⟨[], m0, 100, 100⟩) (B := TabP tb (tabH m0 (hN m0 c3 ds 0))) (by repeat (first | with_reducible exact Z.Take.here | apply Z.Take.there)) rfl ?_
          refine Z.j_cast (A := Z.MapP hb (Value.int .u64) (Value.int .i64) []) (B := Z.MapP hb (Value.int .u64) (Value.int .i64) (hN m0 c3 ds 0)) (by repeat (first | with_reducible exact Z.Take.here | apply Z.Take.there)) rfl ?_
          refine Z.j_initF (E' := [(0, .int .i64 m0), (1, .slice p1 n1 cap1), (2, .int .i64 close), (7, .pointer (some ⟨tb, 0, none⟩)), (9, .map (some hb)), (37, .slice p1 n1 cap1), (38, .int .i64 n1), (39, .int .i64 ((0) : Nat))]) (As := [TabP tb (tabH m0 (hN m0 c3 ds (0))), Z.MapP hb (Value.int .u64) (Value.int .i64) (hN m0 c3 ds (0))]) (Fr := Fr) (by repeat (first | exact trivial | refine ⟨rfl, ?_⟩)) (by repeat (first | with_reducible exact Z.Takes.nil | (apply Z.Takes.cons; (repeat (first | with_reducible exact Z.Take.here | apply Z.Take.there))))) (by repeat (first | with_reducible exact Z.Drop.nil | apply Z.Drop.cons)) ?_
          refine Z.j_loop (X := { x : (Nat) // (x) ≤ n1 }) (fun (x : { x : (Nat) // (x) ≤ n1 }) => [(0, .int .i64 m0), (1, .slice p1 n1 cap1), (2, .int .i64 close), (7, .pointer (some ⟨tb, 0, none⟩)), (9, .map (some hb)), (37, .slice p1 n1 cap1), (38, .int .i64 n1), (39, .int .i64 ((x.1) : Nat))]) (fun x => (fun (x : { x : (Nat) // (x) ≤ n1 }) => [TabP tb (tabH m0 (hN m0 c3 ds (x.1))), Z.MapP hb (Value.int .u64) (Value.int .i64) (hN m0 c3 ds (x.1))]) x ++ Fr) (fun (x : { x : (Nat) // (x) ≤ n1 }) => n1 - (x.1)) ⟨(0), by omega⟩ (fun x => ?_)
          obtain ⟨i, hinv⟩ := x
          have hinv' : i ≤ n1 := hinv
          have hi := hinv'
          show Z.J _ _ _ ([(0, .int .i64 m0), (1, .slice p1 n1 cap1), (2, .int .i64 close), (7, .pointer (some ⟨tb, 0, none⟩)), (9, .map (some hb)), (37, .slice p1 n1 cap1), (38, .int .i64 n1), (39, .int .i64 (i : Nat))]) ([TabP tb (tabH m0 (hN m0 c3 ds i)), Z.MapP hb (Value.int .u64) (Value.int .i64) (hN m0 c3 ds i)] ++ Fr) _
          refine Z.j_app (by repeat (first | exact Z.App.nil | apply Z.App.cons)) ?_
          refine Z.j_seq ?_
          refine Z.j_region ?_
          refine Z.s_val (Z.pv_lss rfl rfl) ?_
          refine Z.j_nil ?_
          refine Z.j_then ?_
          refine Z.j_seq ?_
          refine Z.j_cond rfl (fun hc40 => ?_) (fun hc40 => ?_)
          · try (with_reducible first | replace hc40 := of_decide_eq_true hc40 | replace hc40 := of_decide_eq_false hc40 | replace hc40 := Z.nd_true hc40 | replace hc40 := Z.nd_false hc40 | replace hc40 := Z.nn_true hc40 | replace hc40 := Z.nn_false hc40 | replace hc40 := Z.nb_true hc40 | replace hc40 := Z.nb_false hc40)
            first
            | (exfalso; first | (cases hc40; done) | omega)
            | skip
              obtain ⟨b1, o1, e1, hro1⟩ := hp1 (by omega)
              obtain ⟨hk1, hk2⟩ := hN_ok (m0 := m0) (c3 := c3) (ds := ds) (by omega) i
              have hok := tabH_ok hk1 hk2 (by omega)
              have hn1 : ¬ (hN m0 c3 ds i).length > 1000 := by omega
              refine Z.j_skip ?_
              refine Z.j_then ?_
              refine Z.j_seq ?_
              refine Z.j_block ?_
              refine Z.j_seq ?_
              refine Z.j_region ?_
              refine Z.s_val (Z.pv_move rfl) ?_
              refine Z.s_val (Z.pv_indexAddr (o' := o1 + i) (b := b1) (o := o1) (len := n1) (cap := cap1) (by show some (Value.slice p1 n1 cap1) = _; rw [e1]) rfl Try.underlying42 Try.sizeOf31 (by omega) (by simp)) ?_
              refine Z.s_val (Z.pv_load1r (v := .int .u64 (ds.getD i 0)) (b := b1) (o := o1) (j := i) rfl hro1 rfl Try.isAgg31 (getmap (by omega))) ?_
              refine Z.s_val (Z.pv_assign rfl) ?_
              refine Z.s_val (Z.pv_assign rfl) ?_
              refine Z.j_nil ?_
              refine Z.j_then ?_
              refine Z.j_seq ?_
              refine Z.j_region ?_
              refine Z.s_val (Z.pv_move rfl) ?_
              refine Z.s_val (Z.pv_move rfl) ?_
              refine Z.s_val (Z.pv_move rfl) ?_
              refine Z.s_callD rfl rfl rfl isFn10 (by repeat (first | with_reducible exact Z.Takes.nil | (apply Z.Takes.cons; (repeat (first | with_reducible exact Z.Take.here | apply Z.Take.there))))) (by repeat (first | exact Z.App.nil | apply Z.App.cons)) (open_is (t := tabH m0 (hN m0 c3 ds i)) (T' := tabH m0 (putH m0 (ds.getD i 0) i (hN m0 c3 ds i))) (p := i) (d := ds.getD i 0) (e := errH m0 (ds.getD i 0) (hN m0 c3 ds i)) hok (open_H (i := (i : Int))).1 open_H.2) ?_
              refine Z.s_val (Z.pv_assign rfl) ?_
              refine Z.j_nil ?_
              refine Z.j_then ?_
              refine Z.j_seq ?_
              refine Z.j_region ?_
              refine Z.s_val (Z.pv_move rfl) ?_
              refine Z.s_val (Z.pv_move rfl) ?_
              refine Z.s_val (Z.pv_lookupOkZ (k := (ds.getD i 0)) (venc := Value.int .i64) (m := (hN m0 c3 ds i)) 0 rfl rfl Try.underlying30 kU64 Try.zeroValue3 (by repeat (first | with_reducible exact Z.Take.here | apply Z.Take.there))) ?_
              refine Z.s_val (Z.pv_move rfl) ?_
              refine Z.s_val (Z.pv_extract rfl rfl) ?_
              refine Z.s_val (Z.pv_extract rfl rfl) ?_
              refine Z.s_val (Z.pv_assign rfl) ?_
              refine Z.s_val (Z.pv_assign rfl) ?_
              refine Z.j_nil ?_
              refine Z.j_then ?_
              refine Z.j_seq ?_
              refine Z.j_block ?_
              refine Z.j_seq ?_
              refine Z.j_region ?_
              refine Z.s_val (Z.pv_move rfl) ?_
              refine Z.s_val (Z.pv_eql rfl rfl) ?_
              refine Z.s_val (Z.pv_move rfl) ?_
              refine Z.s_split 62 rfl (fun hg62 => ?_) (fun hg62 => ?_)
              · try (with_reducible first | replace hg62 := of_decide_eq_true hg62 | replace hg62 := of_decide_eq_false hg62 | replace hg62 := Z.nd_true hg62 | replace hg62 := Z.nd_false hg62 | replace hg62 := Z.nn_true hg62 | replace hg62 := Z.nn_false hg62 | replace hg62 := Z.nb_true hg62 | replace hg62 := Z.nb_false hg62)
                first
                | (exfalso; first | (cases hg62; done) | omega)
                | skip
                  refine Z.s_skip ?_
                  refine Z.s_val (Z.pv_pick rfl rfl) ?_
                  refine Z.s_val (Z.pv_assign rfl) ?_
                  refine Z.j_nil ?_
                  refine Z.j_then ?_
                  refine Z.j_cond rfl (fun hc59 => ?_) (fun hc59 => ?_)
                  · try (with_reducible first | replace hc59 := of_decide_eq_true hc59 | replace hc59 := of_decide_eq_false hc59 | replace hc59 := Z.nd_true hc59 | replace hc59 := Z.nd_false hc59 | replace hc59 := Z.nn_true hc59 | replace hc59 := Z.nn_false hc59 | replace hc59 := Z.nb_true hc59 | replace hc59 := Z.nb_false hc59)
                    first
                    | (exfalso; first | (cases hc59; done) | omega)
                    | skip
                      refine Z.j_seq ?_
                      refine Z.j_region ?_
                      refine Z.s_val (Z.pv_move rfl) ?_
                      refine Z.s_val (Z.pv_neq rfl rfl) ?_
                      refine Z.j_nil ?_
                      refine Z.j_then ?_
                      refine Z.j_cond rfl (fun hc66 => ?_) (fun hc66 => ?_)
                      · try (with_reducible first | replace hc66 := of_decide_eq_true hc66 | replace hc66 := of_decide_eq_false hc66 | replace hc66 := Z.nd_true hc66 | replace hc66 := Z.nd_false hc66 | replace hc66 := Z.nn_true hc66 | replace hc66 := Z.nn_false hc66 | replace hc66 := Z.nb_true hc66 | replace hc66 := Z.nb_false hc66)
                        first | exact absurd (errH_a (.inl hg62)) hc66 | exact absurd (errH_a (.inr hc59)) hc66
                      · try (with_reducible first | replace hc66 := of_decide_eq_true hc66 | replace hc66 := of_decide_eq_false hc66 | replace hc66 := Z.nd_true hc66 | replace hc66 := Z.nd_false hc66 | replace hc66 := Z.nn_true hc66 | replace hc66 := Z.nn_false hc66 | replace hc66 := Z.nb_true hc66 | replace hc66 := Z.nb_false hc66)
                        first
                        | (exfalso; first | (cases hc66; done) | omega)
                        | skip
                          refine Z.j_skip ?_
                          refine Z.j_blk ?_
                          refine Z.j_then ?_
                          refine Z.j_seq ?_
                          first
                          | (refine Z.j_cast (A := Z.MapP hb (Value.int .u64) (Value.int .i64) (Z.mput (ds.getD i 0) (i : Int) (hN m0 c3 ds i))) (B := Z.MapP hb (Value.int .u64) (Value.int .i64) (putH m0 (ds.getD i 0) i (hN m0 c3 ds i))) (by repeat (first | with_reducible exact Z.Take.here | apply Z.Take.there)) (by rw [putH_d hg62 hc59 hc67]) ?_)
                          | (refine Z.j_cast (A := Z.MapP hb (Value.int .u64) (Value.int .i64) (hN m0 c3 ds i)) (B := Z.MapP hb (Value.int .u64) (Value.int .i64) (putH m0 (ds.getD i 0) i (hN m0 c3 ds i))) (by repeat (first | with_reducible exact Z.Take.here | apply Z.Take.there)) (by first | rw [putH_a (.inl hg62)] | rw [putH_a (.inr hc59)] | rw [putH_c hg62 hc59 hc67]) ?_)
                          refine Z.j_region ?_
                          refine Z.s_val (Z.pv_move rfl) ?_
                          refine Z.s_val (Z.pv_bits rfl rfl rfl) ?_
                          refine Z.s_val (Z.pv_move rfl) ?_
                          refine Z.s_val (Z.pv_bits rfl rfl hc3) ?_
                          refine Z.s_val (Z.pv_eql rfl rfl) ?_
                          refine Z.j_nil ?_
                          refine Z.j_then ?_
                          refine Z.j_cond rfl (fun hc78 => ?_) (fun hc78 => ?_)
                          · try (with_reducible first | replace hc78 := of_decide_eq_true hc78 | replace hc78 := of_decide_eq_false hc78 | replace hc78 := Z.nd_true hc78 | replace hc78 := Z.nd_false hc78 | replace hc78 := Z.nn_true hc78 | replace hc78 := Z.nn_false hc78 | replace hc78 := Z.nb_true hc78 | replace hc78 := Z.nb_false hc78)
                            first
                            | (exfalso; first | (cases hc78; done) | omega)
                            | skip
                              refine Z.j_seq ?_
                              refine Z.j_region ?_
                              refine Z.s_val (Z.pv_move rfl) ?_
                              refine Z.s_val (Z.pv_move rfl) ?_
                              refine Z.s_val (Z.pv_indexAddr (o' := o1) (b := b1) (o := o1) (len := n1) (cap := cap1) (by show some (Value.slice p1 n1 cap1) = _; rw [e1]) rfl Try.underlying42 Try.sizeOf31 (by omega) (by simp)) ?_
                              refine Z.s_val (Z.pv_load1r (v := .int .u64 (ds.getD 0 0)) (b := b1) (o := o1) (j := 0) rfl hro1 rfl Try.isAgg31 (getmap (by omega))) ?_
                              refine Z.s_val (Z.pv_lookupOkZ (k := (ds.getD 0 0)) (venc := Value.int .i64) (m := (putH m0 (ds.getD i 0) i (hN m0 c3 ds i))) 0 rfl rfl Try.underlying30 kU64 Try.zeroValue3 (by repeat (first | with_reducible exact Z.Take.here | apply Z.Take.there))) ?_
                              refine Z.s_val (Z.pv_move rfl) ?_
                              refine Z.s_val (Z.pv_extract rfl rfl) ?_
                              refine Z.s_val (Z.pv_extract rfl rfl) ?_
                              refine Z.s_val (Z.pv_assign rfl) ?_
                              refine Z.s_val (Z.pv_assign rfl) ?_
                              refine Z.j_nil ?_
                              refine Z.j_then ?_
                              refine Z.j_seq ?_
                              refine Z.j_seq ?_
                              refine Z.j_region ?_
                              refine Z.s_val (Z.pv_move rfl) ?_
                              refine Z.s_val (Z.pv_move rfl) ?_
                              refine Z.s_val (Z.pv_indexAddr (o' := o1) (b := b1) (o := o1) (len := n1) (cap := cap1) (by show some (Value.slice p1 n1 cap1) = _; rw [e1]) rfl Try.underlying42 Try.sizeOf31 (by omega) (by simp)) ?_
                              refine Z.s_val (Z.pv_load1r (v := .int .u64 (ds.getD 0 0)) (b := b1) (o := o1) (j := 0) rfl hro1 rfl Try.isAgg31 (getmap (by omega))) ?_
                              refine Z.s_callD rfl rfl rfl isFn11 (by repeat (first | with_reducible exact Z.Takes.nil | (apply Z.Takes.cons; (repeat (first | with_reducible exact Z.Take.here | apply Z.Take.there))))) (by repeat (first | exact Z.App.nil | apply Z.App.cons)) (close_spec _ _ (tabH m0 (putH m0 (ds.getD i 0) i (hN m0 c3 ds i))) (ds.getD 0 0)) ?_
                              refine Z.s_val (Z.pv_move rfl) ?_
                              refine Z.s_val (Z.pv_neqb rfl rfl Try.underlying4) ?_
                              refine Z.j_nil ?_
                              refine Z.j_then ?_
                              refine Z.j_cond rfl (fun hc93 => ?_) (fun hc93 => ?_)
                              · try (with_reducible first | replace hc93 := of_decide_eq_true hc93 | replace hc93 := of_decide_eq_false hc93 | replace hc93 := Z.nd_true hc93 | replace hc93 := Z.nd_false hc93 | replace hc93 := Z.nn_true hc93 | replace hc93 := Z.nn_false hc93 | replace hc93 := Z.nb_true hc93 | replace hc93 := Z.nb_false hc93)
                                rw [some_H] at hc93; simp at hc93
                              · try (with_reducible first | replace hc93 := of_decide_eq_true hc93 | replace hc93 := of_decide_eq_false hc93 | replace hc93 := Z.nd_true hc93 | replace hc93 := Z.nd_false hc93 | replace hc93 := Z.nn_true hc93 | replace hc93 := Z.nn_false hc93 | replace hc93 := Z.nb_true hc93 | replace hc93 := Z.nb_false hc93)
                                first
                                | (exfalso; first | (cases hc93; done) | omega)
                                | skip
                                  refine Z.j_skip ?_
                                  refine Z.j_then ?_
                                  refine Z.j_region ?_
                                  refine Z.s_val (Z.pv_move rfl) ?_
                                  refine Z.s_val (Z.pv_move rfl) ?_
                                  refine Z.s_val (Z.pv_indexAddr (o' := o1) (b := b1) (o := o1) (len := n1) (cap := cap1) (by show some (Value.slice p1 n1 cap1) = _; rw [e1]) rfl Try.underlying42 Try.sizeOf31 (by omega) (by simp)) ?_
                                  refine Z.s_val (Z.pv_load1r (v := .int .u64 (ds.getD 0 0)) (b := b1) (o := o1) (j := 0) rfl hro1 rfl Try.isAgg31 (getmap (by omega))) ?_
                                  refine Z.s_delete0 (k := (ds.getD 0 0)) rfl rfl Try.underlying30 kU64 (by repeat (first | with_reducible exact Z.Take.here | apply Z.Take.there)) ?_
                                  refine Z.j_nil ?_
                                  refine Z.j_blk ?_
                                  refine Z.j_then ?_
                                  refine Z.j_region ?_
                                  refine Z.s_val (Z.pv_add rfl rfl (by first | exact IntWalk.i64_in _ (by omega) | rfl)) ?_
                                  refine Z.s_val (Z.pv_move rfl) ?_
                                  refine Z.j_nil ?_
                                  refine Z.j_then ?_
                                  first
                                  | (refine Z.j_cast (A := TabP tb ((tabH m0 (putH m0 (ds.getD i 0) i (hN m0 c3 ds i))).close (ds.getD 0 0))) (B := TabP tb (tabH m0 (hN m0 c3 ds (i + 1)))) (by repeat (first | with_reducible exact Z.Take.here | apply Z.Take.there)) (by rw [close_H, hN_t hc78]) ?_
                                     refine Z.j_cast (A := Z.MapP hb (Value.int .u64) (Value.int .i64) (Z.mdel (ds.getD 0 0) (putH m0 (ds.getD i 0) i (hN m0 c3 ds i)))) (B := Z.MapP hb (Value.int .u64) (Value.int .i64) (hN m0 c3 ds (i + 1))) (by repeat (first | with_reducible exact Z.Take.here | apply Z.Take.there)) (by rw [hN_t hc78]) ?_)
                                  | (refine Z.j_cast (A := TabP tb (tabH m0 (putH m0 (ds.getD i 0) i (hN m0 c3 ds i)))) (B := TabP tb (tabH m0 (hN m0 c3 ds (i + 1)))) (by repeat (first | with_reducible exact Z.Take.here | apply Z.Take.there)) (by rw [hN_f hc78]) ?_
                                     refine Z.j_cast (A := Z.MapP hb (Value.int .u64) (Value.int .i64) (putH m0 (ds.getD i 0) i (hN m0 c3 ds i))) (B := Z.MapP hb (Value.int .u64) (Value.int .i64) (hN m0 c3 ds (i + 1))) (by repeat (first | with_reducible exact Z.Take.here | apply Z.Take.there)) (by rw [hN_f hc78]) ?_)
                                  (refine Z.j_nextG (X := { x : (Nat) // (x) ≤ n1 }) (EE := (fun (x : { x : (Nat) // (x) ≤ n1 }) => [(0, .int .i64 m0), (1, .slice p1 n1 cap1), (2, .int .i64 close), (7, .pointer (some ⟨tb, 0, none⟩)), (9, .map (some hb)), (37, .slice p1 n1 cap1), (38, .int .i64 n1), (39, .int .i64 ((x.1) : Nat))])) (LL := (fun (x : { x : (Nat) // (x) ≤ n1 }) => [TabP tb (tabH m0 (hN m0 c3 ds (x.1))), Z.MapP hb (Value.int .u64) (Value.int .i64) (hN m0 c3 ds (x.1))])) (μ := (fun (x : { x : (Nat) // (x) ≤ n1 }) => n1 - (x.1))) (x := ⟨(i), hinv⟩) ⟨(i + 1), by omega⟩ ?_ ?_ ?_; (show n1 - (i + 1) < n1 - i; omega); (exact (by repeat (first | exact trivial | refine ⟨rfl, ?_⟩))); (exact Z.st_td (by repeat (first | with_reducible exact Z.Takes.nil | (apply Z.Takes.cons; (repeat (first | with_reducible exact Z.Take.here | apply Z.Take.there))))) (by repeat (first | with_reducible exact Z.Drop.nil | apply Z.Drop.cons))))
                          · try (with_reducible first | replace hc78 := of_decide_eq_true hc78 | replace hc78 := of_decide_eq_false hc78 | replace hc78 := Z.nd_true hc78 | replace hc78 := Z.nd_false hc78 | replace hc78 := Z.nn_true hc78 | replace hc78 := Z.nn_false hc78 | replace hc78 := Z.nb_true hc78 | replace hc78 := Z.nb_false hc78)
                            first
                            | (exfalso; first | (cases hc78; done) | omega)
                            | skip
                              refine Z.j_skip ?_
                              refine Z.j_blk ?_
                              refine Z.j_then ?_
                              refine Z.j_region ?_
                              refine Z.s_val (Z.pv_add rfl rfl (by first | exact IntWalk.i64_in _ (by omega) | rfl)) ?_
                              refine Z.s_val (Z.pv_move rfl) ?_
                              refine Z.j_nil ?_
                              refine Z.j_then ?_
                              first
                              | (refine Z.j_cast (A := TabP tb ((tabH m0 (putH m0 (ds.getD i 0) i (hN m0 c3 ds i))).close (ds.getD 0 0))) (B := TabP tb (tabH m0 (hN m0 c3 ds (i + 1)))) (by repeat (first | with_reducible exact Z.Take.here | apply Z.Take.there)) (by rw [close_H, hN_t hc78]) ?_
                                 refine Z.j_cast (A := Z.MapP hb (Value.int .u64) (Value.int .i64) (Z.mdel (ds.getD 0 0) (putH m0 (ds.getD i 0) i (hN m0 c3 ds i)))) (B := Z.MapP hb (Value.int .u64) (Value.int .i64) (hN m0 c3 ds (i + 1))) (by repeat (first | with_reducible exact Z.Take.here | apply Z.Take.there)) (by rw [hN_t hc78]) ?_)
                              | (refine Z.j_cast (A := TabP tb (tabH m0 (putH m0 (ds.getD i 0) i (hN m0 c3 ds i)))) (B := TabP tb (tabH m0 (hN m0 c3 ds (i + 1)))) (by repeat (first | with_reducible exact Z.Take.here | apply Z.Take.there)) (by rw [hN_f hc78]) ?_
                                 refine Z.j_cast (A := Z.MapP hb (Value.int .u64) (Value.int .i64) (putH m0 (ds.getD i 0) i (hN m0 c3 ds i))) (B := Z.MapP hb (Value.int .u64) (Value.int .i64) (hN m0 c3 ds (i + 1))) (by repeat (first | with_reducible exact Z.Take.here | apply Z.Take.there)) (by rw [hN_f hc78]) ?_)
                              (refine Z.j_nextG (X := { x : (Nat) // (x) ≤ n1 }) (EE := (fun (x : { x : (Nat) // (x) ≤ n1 }) => [(0, .int .i64 m0), (1, .slice p1 n1 cap1), (2, .int .i64 close), (7, .pointer (some ⟨tb, 0, none⟩)), (9, .map (some hb)), (37, .slice p1 n1 cap1), (38, .int .i64 n1), (39, .int .i64 ((x.1) : Nat))])) (LL := (fun (x : { x : (Nat) // (x) ≤ n1 }) => [TabP tb (tabH m0 (hN m0 c3 ds (x.1))), Z.MapP hb (Value.int .u64) (Value.int .i64) (hN m0 c3 ds (x.1))])) (μ := (fun (x : { x : (Nat) // (x) ≤ n1 }) => n1 - (x.1))) (x := ⟨(i), hinv⟩) ⟨(i + 1), by omega⟩ ?_ ?_ ?_; (show n1 - (i + 1) < n1 - i; omega); (exact (by repeat (first | exact trivial | refine ⟨rfl, ?_⟩))); (exact Z.st_td (by repeat (first | with_reducible exact Z.Takes.nil | (apply Z.Takes.cons; (repeat (first | with_reducible exact Z.Take.here | apply Z.Take.there))))) (by repeat (first | with_reducible exact Z.Drop.nil | apply Z.Drop.cons))))
                  · try (with_reducible first | replace hc59 := of_decide_eq_true hc59 | replace hc59 := of_decide_eq_false hc59 | replace hc59 := Z.nd_true hc59 | replace hc59 := Z.nd_false hc59 | replace hc59 := Z.nn_true hc59 | replace hc59 := Z.nn_false hc59 | replace hc59 := Z.nb_true hc59 | replace hc59 := Z.nb_false hc59)
                    first
                    | (exfalso; first | (cases hc59; done) | omega)
                    | skip
                      refine Z.j_seq ?_
                      refine Z.j_region ?_
                      refine Z.s_val (Z.pv_move rfl) ?_
                      refine Z.s_val (Z.pv_lenM rfl Try.underlying30 (by repeat (first | with_reducible exact Z.Take.here | apply Z.Take.there))) ?_
                      refine Z.s_val (Z.pv_move rfl) ?_
                      refine Z.s_val (Z.pv_eql rfl rfl) ?_
                      refine Z.s_val (Z.pv_assign rfl) ?_
                      refine Z.j_nil ?_
                      refine Z.j_then ?_
                      refine Z.j_cond rfl (fun hc67 => ?_) (fun hc67 => ?_)
                      · try (with_reducible first | replace hc67 := of_decide_eq_true hc67 | replace hc67 := of_decide_eq_false hc67 | replace hc67 := Z.nd_true hc67 | replace hc67 := Z.nd_false hc67 | replace hc67 := Z.nn_true hc67 | replace hc67 := Z.nn_false hc67 | replace hc67 := Z.nb_true hc67 | replace hc67 := Z.nb_false hc67)
                        first
                        | (exfalso; first | (cases hc67; done) | omega)
                        | skip
                          refine Z.j_seq ?_
                          refine Z.j_region ?_
                          refine Z.s_val (Z.pv_move rfl) ?_
                          refine Z.s_val (Z.pv_neq rfl rfl) ?_
                          refine Z.j_nil ?_
                          refine Z.j_then ?_
                          refine Z.j_cond rfl (fun hc73 => ?_) (fun hc73 => ?_)
                          · try (with_reducible first | replace hc73 := of_decide_eq_true hc73 | replace hc73 := of_decide_eq_false hc73 | replace hc73 := Z.nd_true hc73 | replace hc73 := Z.nd_false hc73 | replace hc73 := Z.nn_true hc73 | replace hc73 := Z.nn_false hc73 | replace hc73 := Z.nb_true hc73 | replace hc73 := Z.nb_false hc73)
                            exact absurd (errH_c hg62 hc59 hc67) hc73
                          · try (with_reducible first | replace hc73 := of_decide_eq_true hc73 | replace hc73 := of_decide_eq_false hc73 | replace hc73 := Z.nd_true hc73 | replace hc73 := Z.nd_false hc73 | replace hc73 := Z.nn_true hc73 | replace hc73 := Z.nn_false hc73 | replace hc73 := Z.nb_true hc73 | replace hc73 := Z.nb_false hc73)
                            first
                            | (exfalso; first | (cases hc73; done) | omega)
                            | skip
                              refine Z.j_skip ?_
                              refine Z.j_blk ?_
                              refine Z.j_then ?_
                              refine Z.j_seq ?_
                              first
                              | (refine Z.j_cast (A := Z.MapP hb (Value.int .u64) (Value.int .i64) (Z.mput (ds.getD i 0) (i : Int) (hN m0 c3 ds i))) (B := Z.MapP hb (Value.int .u64) (Value.int .i64) (putH m0 (ds.getD i 0) i (hN m0 c3 ds i))) (by repeat (first | with_reducible exact Z.Take.here | apply Z.Take.there)) (by rw [putH_d hg62 hc59 hc67]) ?_)
                              | (refine Z.j_cast (A := Z.MapP hb (Value.int .u64) (Value.int .i64) (hN m0 c3 ds i)) (B := Z.MapP hb (Value.int .u64) (Value.int .i64) (putH m0 (ds.getD i 0) i (hN m0 c3 ds i))) (by repeat (first | with_reducible exact Z.Take.here | apply Z.Take.there)) (by first | rw [putH_a (.inl hg62)] | rw [putH_a (.inr hc59)] | rw [putH_c hg62 hc59 hc67]) ?_)
                              refine Z.j_region ?_
                              refine Z.s_val (Z.pv_move rfl) ?_
                              refine Z.s_val (Z.pv_bits rfl rfl rfl) ?_
                              refine Z.s_val (Z.pv_move rfl) ?_
                              refine Z.s_val (Z.pv_bits rfl rfl hc3) ?_
                              refine Z.s_val (Z.pv_eql rfl rfl) ?_
                              refine Z.j_nil ?_
                              refine Z.j_then ?_
                              refine Z.j_cond rfl (fun hc78 => ?_) (fun hc78 => ?_)
                              · try (with_reducible first | replace hc78 := of_decide_eq_true hc78 | replace hc78 := of_decide_eq_false hc78 | replace hc78 := Z.nd_true hc78 | replace hc78 := Z.nd_false hc78 | replace hc78 := Z.nn_true hc78 | replace hc78 := Z.nn_false hc78 | replace hc78 := Z.nb_true hc78 | replace hc78 := Z.nb_false hc78)
                                first
                                | (exfalso; first | (cases hc78; done) | omega)
                                | skip
                                  refine Z.j_seq ?_
                                  refine Z.j_region ?_
                                  refine Z.s_val (Z.pv_move rfl) ?_
                                  refine Z.s_val (Z.pv_move rfl) ?_
                                  refine Z.s_val (Z.pv_indexAddr (o' := o1) (b := b1) (o := o1) (len := n1) (cap := cap1) (by show some (Value.slice p1 n1 cap1) = _; rw [e1]) rfl Try.underlying42 Try.sizeOf31 (by omega) (by simp)) ?_
                                  refine Z.s_val (Z.pv_load1r (v := .int .u64 (ds.getD 0 0)) (b := b1) (o := o1) (j := 0) rfl hro1 rfl Try.isAgg31 (getmap (by omega))) ?_
                                  refine Z.s_val (Z.pv_lookupOkZ (k := (ds.getD 0 0)) (venc := Value.int .i64) (m := (putH m0 (ds.getD i 0) i (hN m0 c3 ds i))) 0 rfl rfl Try.underlying30 kU64 Try.zeroValue3 (by repeat (first | with_reducible exact Z.Take.here | apply Z.Take.there))) ?_
                                  refine Z.s_val (Z.pv_move rfl) ?_
                                  refine Z.s_val (Z.pv_extract rfl rfl) ?_
                                  refine Z.s_val (Z.pv_extract rfl rfl) ?_
                                  refine Z.s_val (Z.pv_assign rfl) ?_
                                  refine Z.s_val (Z.pv_assign rfl) ?_
                                  refine Z.j_nil ?_
                                  refine Z.j_then ?_
                                  refine Z.j_seq ?_
                                  refine Z.j_seq ?_
                                  refine Z.j_region ?_
                                  refine Z.s_val (Z.pv_move rfl) ?_
                                  refine Z.s_val (Z.pv_move rfl) ?_
                                  refine Z.s_val (Z.pv_indexAddr (o' := o1) (b := b1) (o := o1) (len := n1) (cap := cap1) (by show some (Value.slice p1 n1 cap1) = _; rw [e1]) rfl Try.underlying42 Try.sizeOf31 (by omega) (by simp)) ?_
                                  refine Z.s_val (Z.pv_load1r (v := .int .u64 (ds.getD 0 0)) (b := b1) (o := o1) (j := 0) rfl hro1 rfl Try.isAgg31 (getmap (by omega))) ?_
                                  refine Z.s_callD rfl rfl rfl isFn11 (by repeat (first | with_reducible exact Z.Takes.nil | (apply Z.Takes.cons; (repeat (first | with_reducible exact Z.Take.here | apply Z.Take.there))))) (by repeat (first | exact Z.App.nil | apply Z.App.cons)) (close_spec _ _ (tabH m0 (putH m0 (ds.getD i 0) i (hN m0 c3 ds i))) (ds.getD 0 0)) ?_
                                  refine Z.s_val (Z.pv_move rfl) ?_
                                  refine Z.s_val (Z.pv_neqb rfl rfl Try.underlying4) ?_
                                  refine Z.j_nil ?_
                                  refine Z.j_then ?_
                                  refine Z.j_cond rfl (fun hc93 => ?_) (fun hc93 => ?_)
                                  · try (with_reducible first | replace hc93 := of_decide_eq_true hc93 | replace hc93 := of_decide_eq_false hc93 | replace hc93 := Z.nd_true hc93 | replace hc93 := Z.nd_false hc93 | replace hc93 := Z.nn_true hc93 | replace hc93 := Z.nn_false hc93 | replace hc93 := Z.nb_true hc93 | replace hc93 := Z.nb_false hc93)
                                    rw [some_H] at hc93; simp at hc93
                                  · try (with_reducible first | replace hc93 := of_decide_eq_true hc93 | replace hc93 := of_decide_eq_false hc93 | replace hc93 := Z.nd_true hc93 | replace hc93 := Z.nd_false hc93 | replace hc93 := Z.nn_true hc93 | replace hc93 := Z.nn_false hc93 | replace hc93 := Z.nb_true hc93 | replace hc93 := Z.nb_false hc93)
                                    first
                                    | (exfalso; first | (cases hc93; done) | omega)
                                    | skip
                                      refine Z.j_skip ?_
                                      refine Z.j_then ?_
                                      refine Z.j_region ?_
                                      refine Z.s_val (Z.pv_move rfl) ?_
                                      refine Z.s_val (Z.pv_move rfl) ?_
                                      refine Z.s_val (Z.pv_indexAddr (o' := o1) (b := b1) (o := o1) (len := n1) (cap := cap1) (by show some (Value.slice p1 n1 cap1) = _; rw [e1]) rfl Try.underlying42 Try.sizeOf31 (by omega) (by simp)) ?_
                                      refine Z.s_val (Z.pv_load1r (v := .int .u64 (ds.getD 0 0)) (b := b1) (o := o1) (j := 0) rfl hro1 rfl Try.isAgg31 (getmap (by omega))) ?_
                                      refine Z.s_delete0 (k := (ds.getD 0 0)) rfl rfl Try.underlying30 kU64 (by repeat (first | with_reducible exact Z.Take.here | apply Z.Take.there)) ?_
                                      refine Z.j_nil ?_
                                      refine Z.j_blk ?_
                                      refine Z.j_then ?_
                                      refine Z.j_region ?_
                                      refine Z.s_val (Z.pv_add rfl rfl (by first | exact IntWalk.i64_in _ (by omega) | rfl)) ?_
                                      refine Z.s_val (Z.pv_move rfl) ?_
                                      refine Z.j_nil ?_
                                      refine Z.j_then ?_
                                      first
                                      | (refine Z.j_cast (A := TabP tb ((tabH m0 (putH m0 (ds.getD i 0) i (hN m0 c3 ds i))).close (ds.getD 0 0))) (B := TabP tb (tabH m0 (hN m0 c3 ds (i + 1)))) (by repeat (first | with_reducible exact Z.Take.here | apply Z.Take.there)) (by rw [close_H, hN_t hc78]) ?_
                                         refine Z.j_cast (A := Z.MapP hb (Value.int .u64) (Value.int .i64) (Z.mdel (ds.getD 0 0) (putH m0 (ds.getD i 0) i (hN m0 c3 ds i)))) (B := Z.MapP hb (Value.int .u64) (Value.int .i64) (hN m0 c3 ds (i + 1))) (by repeat (first | with_reducible exact Z.Take.here | apply Z.Take.there)) (by rw [hN_t hc78]) ?_)
                                      | (refine Z.j_cast (A := TabP tb (tabH m0 (putH m0 (ds.getD i 0) i (hN m0 c3 ds i)))) (B := TabP tb (tabH m0 (hN m0 c3 ds (i + 1)))) (by repeat (first | with_reducible exact Z.Take.here | apply Z.Take.there)) (by rw [hN_f hc78]) ?_
                                         refine Z.j_cast (A := Z.MapP hb (Value.int .u64) (Value.int .i64) (putH m0 (ds.getD i 0) i (hN m0 c3 ds i))) (B := Z.MapP hb (Value.int .u64) (Value.int .i64) (hN m0 c3 ds (i + 1))) (by repeat (first | with_reducible exact Z.Take.here | apply Z.Take.there)) (by rw [hN_f hc78]) ?_)
                                      (refine Z.j_nextG (X := { x : (Nat) // (x) ≤ n1 }) (EE := (fun (x : { x : (Nat) // (x) ≤ n1 }) => [(0, .int .i64 m0), (1, .slice p1 n1 cap1), (2, .int .i64 close), (7, .pointer (some ⟨tb, 0, none⟩)), (9, .map (some hb)), (37, .slice p1 n1 cap1), (38, .int .i64 n1), (39, .int .i64 ((x.1) : Nat))])) (LL := (fun (x : { x : (Nat) // (x) ≤ n1 }) => [TabP tb (tabH m0 (hN m0 c3 ds (x.1))), Z.MapP hb (Value.int .u64) (Value.int .i64) (hN m0 c3 ds (x.1))])) (μ := (fun (x : { x : (Nat) // (x) ≤ n1 }) => n1 - (x.1))) (x := ⟨(i), hinv⟩) ⟨(i + 1), by omega⟩ ?_ ?_ ?_; (show n1 - (i + 1) < n1 - i; omega); (exact (by repeat (first | exact trivial | refine ⟨rfl, ?_⟩))); (exact Z.st_td (by repeat (first | with_reducible exact Z.Takes.nil | (apply Z.Takes.cons; (repeat (first | with_reducible exact Z.Take.here | apply Z.Take.there))))) (by repeat (first | with_reducible exact Z.Drop.nil | apply Z.Drop.cons))))
                              · try (with_reducible first | replace hc78 := of_decide_eq_true hc78 | replace hc78 := of_decide_eq_false hc78 | replace hc78 := Z.nd_true hc78 | replace hc78 := Z.nd_false hc78 | replace hc78 := Z.nn_true hc78 | replace hc78 := Z.nn_false hc78 | replace hc78 := Z.nb_true hc78 | replace hc78 := Z.nb_false hc78)
                                first
                                | (exfalso; first | (cases hc78; done) | omega)
                                | skip
                                  refine Z.j_skip ?_
                                  refine Z.j_blk ?_
                                  refine Z.j_then ?_
                                  refine Z.j_region ?_
                                  refine Z.s_val (Z.pv_add rfl rfl (by first | exact IntWalk.i64_in _ (by omega) | rfl)) ?_
                                  refine Z.s_val (Z.pv_move rfl) ?_
                                  refine Z.j_nil ?_
                                  refine Z.j_then ?_
                                  first
                                  | (refine Z.j_cast (A := TabP tb ((tabH m0 (putH m0 (ds.getD i 0) i (hN m0 c3 ds i))).close (ds.getD 0 0))) (B := TabP tb (tabH m0 (hN m0 c3 ds (i + 1)))) (by repeat (first | with_reducible exact Z.Take.here | apply Z.Take.there)) (by rw [close_H, hN_t hc78]) ?_
                                     refine Z.j_cast (A := Z.MapP hb (Value.int .u64) (Value.int .i64) (Z.mdel (ds.getD 0 0) (putH m0 (ds.getD i 0) i (hN m0 c3 ds i)))) (B := Z.MapP hb (Value.int .u64) (Value.int .i64) (hN m0 c3 ds (i + 1))) (by repeat (first | with_reducible exact Z.Take.here | apply Z.Take.there)) (by rw [hN_t hc78]) ?_)
                                  | (refine Z.j_cast (A := TabP tb (tabH m0 (putH m0 (ds.getD i 0) i (hN m0 c3 ds i)))) (B := TabP tb (tabH m0 (hN m0 c3 ds (i + 1)))) (by repeat (first | with_reducible exact Z.Take.here | apply Z.Take.there)) (by rw [hN_f hc78]) ?_
                                     refine Z.j_cast (A := Z.MapP hb (Value.int .u64) (Value.int .i64) (putH m0 (ds.getD i 0) i (hN m0 c3 ds i))) (B := Z.MapP hb (Value.int .u64) (Value.int .i64) (hN m0 c3 ds (i + 1))) (by repeat (first | with_reducible exact Z.Take.here | apply Z.Take.there)) (by rw [hN_f hc78]) ?_)
                                  (refine Z.j_nextG (X := { x : (Nat) // (x) ≤ n1 }) (EE := (fun (x : { x : (Nat) // (x) ≤ n1 }) => [(0, .int .i64 m0), (1, .slice p1 n1 cap1), (2, .int .i64 close), (7, .pointer (some ⟨tb, 0, none⟩)), (9, .map (some hb)), (37, .slice p1 n1 cap1), (38, .int .i64 n1), (39, .int .i64 ((x.1) : Nat))])) (LL := (fun (x : { x : (Nat) // (x) ≤ n1 }) => [TabP tb (tabH m0 (hN m0 c3 ds (x.1))), Z.MapP hb (Value.int .u64) (Value.int .i64) (hN m0 c3 ds (x.1))])) (μ := (fun (x : { x : (Nat) // (x) ≤ n1 }) => n1 - (x.1))) (x := ⟨(i), hinv⟩) ⟨(i + 1), by omega⟩ ?_ ?_ ?_; (show n1 - (i + 1) < n1 - i; omega); (exact (by repeat (first | exact trivial | refine ⟨rfl, ?_⟩))); (exact Z.st_td (by repeat (first | with_reducible exact Z.Takes.nil | (apply Z.Takes.cons; (repeat (first | with_reducible exact Z.Take.here | apply Z.Take.there))))) (by repeat (first | with_reducible exact Z.Drop.nil | apply Z.Drop.cons))))
                      · try (with_reducible first | replace hc67 := of_decide_eq_true hc67 | replace hc67 := of_decide_eq_false hc67 | replace hc67 := Z.nd_true hc67 | replace hc67 := Z.nd_false hc67 | replace hc67 := Z.nn_true hc67 | replace hc67 := Z.nn_false hc67 | replace hc67 := Z.nb_true hc67 | replace hc67 := Z.nb_false hc67)
                        first
                        | (exfalso; first | (cases hc67; done) | omega)
                        | skip
                          refine Z.j_seq ?_
                          refine Z.j_seq ?_
                          refine Z.j_region ?_
                          refine Z.s_val (Z.pv_move rfl) ?_
                          refine Z.s_val (Z.pv_neq rfl rfl) ?_
                          refine Z.j_nil ?_
                          refine Z.j_then ?_
                          refine Z.j_cond rfl (fun hc55 => ?_) (fun hc55 => ?_)
                          · try (with_reducible first | replace hc55 := of_decide_eq_true hc55 | replace hc55 := of_decide_eq_false hc55 | replace hc55 := Z.nd_true hc55 | replace hc55 := Z.nd_false hc55 | replace hc55 := Z.nn_true hc55 | replace hc55 := Z.nn_false hc55 | replace hc55 := Z.nb_true hc55 | replace hc55 := Z.nb_false hc55)
                            exact absurd (errH_d hg62 hc59 hc67) hc55
                          · try (with_reducible first | replace hc55 := of_decide_eq_true hc55 | replace hc55 := of_decide_eq_false hc55 | replace hc55 := Z.nd_true hc55 | replace hc55 := Z.nd_false hc55 | replace hc55 := Z.nn_true hc55 | replace hc55 := Z.nn_false hc55 | replace hc55 := Z.nb_true hc55 | replace hc55 := Z.nb_false hc55)
                            first
                            | (exfalso; first | (cases hc55; done) | omega)
                            | skip
                              refine Z.j_skip ?_
                              refine Z.j_then ?_
                              refine Z.j_region ?_
                              refine Z.s_val (Z.pv_move rfl) ?_
                              refine Z.s_val (Z.pv_move rfl) ?_
                              refine Z.s_val (Z.pv_move rfl) ?_
                              refine Z.s_mapUpdate (k := ds.getD i 0) (v := (i : Int)) rfl rfl rfl Try.underlying30 kU64 (by repeat (first | with_reducible exact Z.Take.here | apply Z.Take.there)) ?_
                              refine Z.j_nil ?_
                              refine Z.j_blk ?_
                              refine Z.j_then ?_
                              refine Z.j_seq ?_
                              first
                              | (refine Z.j_cast (A := Z.MapP hb (Value.int .u64) (Value.int .i64) (Z.mput (ds.getD i 0) (i : Int) (hN m0 c3 ds i))) (B := Z.MapP hb (Value.int .u64) (Value.int .i64) (putH m0 (ds.getD i 0) i (hN m0 c3 ds i))) (by repeat (first | with_reducible exact Z.Take.here | apply Z.Take.there)) (by rw [putH_d hg62 hc59 hc67]) ?_)
                              | (refine Z.j_cast (A := Z.MapP hb (Value.int .u64) (Value.int .i64) (hN m0 c3 ds i)) (B := Z.MapP hb (Value.int .u64) (Value.int .i64) (putH m0 (ds.getD i 0) i (hN m0 c3 ds i))) (by repeat (first | with_reducible exact Z.Take.here | apply Z.Take.there)) (by first | rw [putH_a (.inl hg62)] | rw [putH_a (.inr hc59)] | rw [putH_c hg62 hc59 hc67]) ?_)
                              refine Z.j_region ?_
                              refine Z.s_val (Z.pv_move rfl) ?_
                              refine Z.s_val (Z.pv_bits rfl rfl rfl) ?_
                              refine Z.s_val (Z.pv_move rfl) ?_
                              refine Z.s_val (Z.pv_bits rfl rfl hc3) ?_
                              refine Z.s_val (Z.pv_eql rfl rfl) ?_
                              refine Z.j_nil ?_
                              refine Z.j_then ?_
                              refine Z.j_cond rfl (fun hc78 => ?_) (fun hc78 => ?_)
                              · try (with_reducible first | replace hc78 := of_decide_eq_true hc78 | replace hc78 := of_decide_eq_false hc78 | replace hc78 := Z.nd_true hc78 | replace hc78 := Z.nd_false hc78 | replace hc78 := Z.nn_true hc78 | replace hc78 := Z.nn_false hc78 | replace hc78 := Z.nb_true hc78 | replace hc78 := Z.nb_false hc78)
                                first
                                | (exfalso; first | (cases hc78; done) | omega)
                                | skip
                                  refine Z.j_seq ?_
                                  refine Z.j_region ?_
                                  refine Z.s_val (Z.pv_move rfl) ?_
                                  refine Z.s_val (Z.pv_move rfl) ?_
                                  refine Z.s_val (Z.pv_indexAddr (o' := o1) (b := b1) (o := o1) (len := n1) (cap := cap1) (by show some (Value.slice p1 n1 cap1) = _; rw [e1]) rfl Try.underlying42 Try.sizeOf31 (by omega) (by simp)) ?_
                                  refine Z.s_val (Z.pv_load1r (v := .int .u64 (ds.getD 0 0)) (b := b1) (o := o1) (j := 0) rfl hro1 rfl Try.isAgg31 (getmap (by omega))) ?_
                                  refine Z.s_val (Z.pv_lookupOkZ (k := (ds.getD 0 0)) (venc := Value.int .i64) (m := (putH m0 (ds.getD i 0) i (hN m0 c3 ds i))) 0 rfl rfl Try.underlying30 kU64 Try.zeroValue3 (by repeat (first | with_reducible exact Z.Take.here | apply Z.Take.there))) ?_
                                  refine Z.s_val (Z.pv_move rfl) ?_
                                  refine Z.s_val (Z.pv_extract rfl rfl) ?_
                                  refine Z.s_val (Z.pv_extract rfl rfl) ?_
                                  refine Z.s_val (Z.pv_assign rfl) ?_
                                  refine Z.s_val (Z.pv_assign rfl) ?_
                                  refine Z.j_nil ?_
                                  refine Z.j_then ?_
                                  refine Z.j_seq ?_
                                  refine Z.j_seq ?_
                                  refine Z.j_region ?_
                                  refine Z.s_val (Z.pv_move rfl) ?_
                                  refine Z.s_val (Z.pv_move rfl) ?_
                                  refine Z.s_val (Z.pv_indexAddr (o' := o1) (b := b1) (o := o1) (len := n1) (cap := cap1) (by show some (Value.slice p1 n1 cap1) = _; rw [e1]) rfl Try.underlying42 Try.sizeOf31 (by omega) (by simp)) ?_
                                  refine Z.s_val (Z.pv_load1r (v := .int .u64 (ds.getD 0 0)) (b := b1) (o := o1) (j := 0) rfl hro1 rfl Try.isAgg31 (getmap (by omega))) ?_
                                  refine Z.s_callD rfl rfl rfl isFn11 (by repeat (first | with_reducible exact Z.Takes.nil | (apply Z.Takes.cons; (repeat (first | with_reducible exact Z.Take.here | apply Z.Take.there))))) (by repeat (first | exact Z.App.nil | apply Z.App.cons)) (close_spec _ _ (tabH m0 (putH m0 (ds.getD i 0) i (hN m0 c3 ds i))) (ds.getD 0 0)) ?_
                                  refine Z.s_val (Z.pv_move rfl) ?_
                                  refine Z.s_val (Z.pv_neqb rfl rfl Try.underlying4) ?_
                                  refine Z.j_nil ?_
                                  refine Z.j_then ?_
                                  refine Z.j_cond rfl (fun hc93 => ?_) (fun hc93 => ?_)
                                  · try (with_reducible first | replace hc93 := of_decide_eq_true hc93 | replace hc93 := of_decide_eq_false hc93 | replace hc93 := Z.nd_true hc93 | replace hc93 := Z.nd_false hc93 | replace hc93 := Z.nn_true hc93 | replace hc93 := Z.nn_false hc93 | replace hc93 := Z.nb_true hc93 | replace hc93 := Z.nb_false hc93)
                                    rw [some_H] at hc93; simp at hc93
                                  · try (with_reducible first | replace hc93 := of_decide_eq_true hc93 | replace hc93 := of_decide_eq_false hc93 | replace hc93 := Z.nd_true hc93 | replace hc93 := Z.nd_false hc93 | replace hc93 := Z.nn_true hc93 | replace hc93 := Z.nn_false hc93 | replace hc93 := Z.nb_true hc93 | replace hc93 := Z.nb_false hc93)
                                    first
                                    | (exfalso; first | (cases hc93; done) | omega)
                                    | skip
                                      refine Z.j_skip ?_
                                      refine Z.j_then ?_
                                      refine Z.j_region ?_
                                      refine Z.s_val (Z.pv_move rfl) ?_
                                      refine Z.s_val (Z.pv_move rfl) ?_
                                      refine Z.s_val (Z.pv_indexAddr (o' := o1) (b := b1) (o := o1) (len := n1) (cap := cap1) (by show some (Value.slice p1 n1 cap1) = _; rw [e1]) rfl Try.underlying42 Try.sizeOf31 (by omega) (by simp)) ?_
                                      refine Z.s_val (Z.pv_load1r (v := .int .u64 (ds.getD 0 0)) (b := b1) (o := o1) (j := 0) rfl hro1 rfl Try.isAgg31 (getmap (by omega))) ?_
                                      refine Z.s_delete0 (k := (ds.getD 0 0)) rfl rfl Try.underlying30 kU64 (by repeat (first | with_reducible exact Z.Take.here | apply Z.Take.there)) ?_
                                      refine Z.j_nil ?_
                                      refine Z.j_blk ?_
                                      refine Z.j_then ?_
                                      refine Z.j_region ?_
                                      refine Z.s_val (Z.pv_add rfl rfl (by first | exact IntWalk.i64_in _ (by omega) | rfl)) ?_
                                      refine Z.s_val (Z.pv_move rfl) ?_
                                      refine Z.j_nil ?_
                                      refine Z.j_then ?_
                                      first
                                      | (refine Z.j_cast (A := TabP tb ((tabH m0 (putH m0 (ds.getD i 0) i (hN m0 c3 ds i))).close (ds.getD 0 0))) (B := TabP tb (tabH m0 (hN m0 c3 ds (i + 1)))) (by repeat (first | with_reducible exact Z.Take.here | apply Z.Take.there)) (by rw [close_H, hN_t hc78]) ?_
                                         refine Z.j_cast (A := Z.MapP hb (Value.int .u64) (Value.int .i64) (Z.mdel (ds.getD 0 0) (putH m0 (ds.getD i 0) i (hN m0 c3 ds i)))) (B := Z.MapP hb (Value.int .u64) (Value.int .i64) (hN m0 c3 ds (i + 1))) (by repeat (first | with_reducible exact Z.Take.here | apply Z.Take.there)) (by rw [hN_t hc78]) ?_)
                                      | (refine Z.j_cast (A := TabP tb (tabH m0 (putH m0 (ds.getD i 0) i (hN m0 c3 ds i)))) (B := TabP tb (tabH m0 (hN m0 c3 ds (i + 1)))) (by repeat (first | with_reducible exact Z.Take.here | apply Z.Take.there)) (by rw [hN_f hc78]) ?_
                                         refine Z.j_cast (A := Z.MapP hb (Value.int .u64) (Value.int .i64) (putH m0 (ds.getD i 0) i (hN m0 c3 ds i))) (B := Z.MapP hb (Value.int .u64) (Value.int .i64) (hN m0 c3 ds (i + 1))) (by repeat (first | with_reducible exact Z.Take.here | apply Z.Take.there)) (by rw [hN_f hc78]) ?_)
                                      (refine Z.j_nextG (X := { x : (Nat) // (x) ≤ n1 }) (EE := (fun (x : { x : (Nat) // (x) ≤ n1 }) => [(0, .int .i64 m0), (1, .slice p1 n1 cap1), (2, .int .i64 close), (7, .pointer (some ⟨tb, 0, none⟩)), (9, .map (some hb)), (37, .slice p1 n1 cap1), (38, .int .i64 n1), (39, .int .i64 ((x.1) : Nat))])) (LL := (fun (x : { x : (Nat) // (x) ≤ n1 }) => [TabP tb (tabH m0 (hN m0 c3 ds (x.1))), Z.MapP hb (Value.int .u64) (Value.int .i64) (hN m0 c3 ds (x.1))])) (μ := (fun (x : { x : (Nat) // (x) ≤ n1 }) => n1 - (x.1))) (x := ⟨(i), hinv⟩) ⟨(i + 1), by omega⟩ ?_ ?_ ?_; (show n1 - (i + 1) < n1 - i; omega); (exact (by repeat (first | exact trivial | refine ⟨rfl, ?_⟩))); (exact Z.st_td (by repeat (first | with_reducible exact Z.Takes.nil | (apply Z.Takes.cons; (repeat (first | with_reducible exact Z.Take.here | apply Z.Take.there))))) (by repeat (first | with_reducible exact Z.Drop.nil | apply Z.Drop.cons))))
                              · try (with_reducible first | replace hc78 := of_decide_eq_true hc78 | replace hc78 := of_decide_eq_false hc78 | replace hc78 := Z.nd_true hc78 | replace hc78 := Z.nd_false hc78 | replace hc78 := Z.nn_true hc78 | replace hc78 := Z.nn_false hc78 | replace hc78 := Z.nb_true hc78 | replace hc78 := Z.nb_false hc78)
                                first
                                | (exfalso; first | (cases hc78; done) | omega)
                                | skip
                                  refine Z.j_skip ?_
                                  refine Z.j_blk ?_
                                  refine Z.j_then ?_
                                  refine Z.j_region ?_
                                  refine Z.s_val (Z.pv_add rfl rfl (by first | exact IntWalk.i64_in _ (by omega) | rfl)) ?_
                                  refine Z.s_val (Z.pv_move rfl) ?_
                                  refine Z.j_nil ?_
                                  refine Z.j_then ?_
                                  first
                                  | (refine Z.j_cast (A := TabP tb ((tabH m0 (putH m0 (ds.getD i 0) i (hN m0 c3 ds i))).close (ds.getD 0 0))) (B := TabP tb (tabH m0 (hN m0 c3 ds (i + 1)))) (by repeat (first | with_reducible exact Z.Take.here | apply Z.Take.there)) (by rw [close_H, hN_t hc78]) ?_
                                     refine Z.j_cast (A := Z.MapP hb (Value.int .u64) (Value.int .i64) (Z.mdel (ds.getD 0 0) (putH m0 (ds.getD i 0) i (hN m0 c3 ds i)))) (B := Z.MapP hb (Value.int .u64) (Value.int .i64) (hN m0 c3 ds (i + 1))) (by repeat (first | with_reducible exact Z.Take.here | apply Z.Take.there)) (by rw [hN_t hc78]) ?_)
                                  | (refine Z.j_cast (A := TabP tb (tabH m0 (putH m0 (ds.getD i 0) i (hN m0 c3 ds i)))) (B := TabP tb (tabH m0 (hN m0 c3 ds (i + 1)))) (by repeat (first | with_reducible exact Z.Take.here | apply Z.Take.there)) (by rw [hN_f hc78]) ?_
                                     refine Z.j_cast (A := Z.MapP hb (Value.int .u64) (Value.int .i64) (putH m0 (ds.getD i 0) i (hN m0 c3 ds i))) (B := Z.MapP hb (Value.int .u64) (Value.int .i64) (hN m0 c3 ds (i + 1))) (by repeat (first | with_reducible exact Z.Take.here | apply Z.Take.there)) (by rw [hN_f hc78]) ?_)
                                  (refine Z.j_nextG (X := { x : (Nat) // (x) ≤ n1 }) (EE := (fun (x : { x : (Nat) // (x) ≤ n1 }) => [(0, .int .i64 m0), (1, .slice p1 n1 cap1), (2, .int .i64 close), (7, .pointer (some ⟨tb, 0, none⟩)), (9, .map (some hb)), (37, .slice p1 n1 cap1), (38, .int .i64 n1), (39, .int .i64 ((x.1) : Nat))])) (LL := (fun (x : { x : (Nat) // (x) ≤ n1 }) => [TabP tb (tabH m0 (hN m0 c3 ds (x.1))), Z.MapP hb (Value.int .u64) (Value.int .i64) (hN m0 c3 ds (x.1))])) (μ := (fun (x : { x : (Nat) // (x) ≤ n1 }) => n1 - (x.1))) (x := ⟨(i), hinv⟩) ⟨(i + 1), by omega⟩ ?_ ?_ ?_; (show n1 - (i + 1) < n1 - i; omega); (exact (by repeat (first | exact trivial | refine ⟨rfl, ?_⟩))); (exact Z.st_td (by repeat (first | with_reducible exact Z.Takes.nil | (apply Z.Takes.cons; (repeat (first | with_reducible exact Z.Take.here | apply Z.Take.there))))) (by repeat (first | with_reducible exact Z.Drop.nil | apply Z.Drop.cons))))
              · try (with_reducible first | replace hg62 := of_decide_eq_true hg62 | replace hg62 := of_decide_eq_false hg62 | replace hg62 := Z.nd_true hg62 | replace hg62 := Z.nd_false hg62 | replace hg62 := Z.nn_true hg62 | replace hg62 := Z.nn_false hg62 | replace hg62 := Z.nb_true hg62 | replace hg62 := Z.nb_false hg62)
                first
                | (exfalso; first | (cases hg62; done) | omega)
                | skip
                  refine Z.s_val (Z.pv_move rfl) ?_
                  refine Z.s_val (Z.pv_pick rfl rfl) ?_
                  refine Z.s_val (Z.pv_assign rfl) ?_
                  refine Z.j_nil ?_
                  refine Z.j_then ?_
                  refine Z.j_cond rfl (fun hc59 => ?_) (fun hc59 => ?_)
                  · try (with_reducible first | replace hc59 := of_decide_eq_true hc59 | replace hc59 := of_decide_eq_false hc59 | replace hc59 := Z.nd_true hc59 | replace hc59 := Z.nd_false hc59 | replace hc59 := Z.nn_true hc59 | replace hc59 := Z.nn_false hc59 | replace hc59 := Z.nb_true hc59 | replace hc59 := Z.nb_false hc59)
                    first
                    | (exfalso; first | (cases hc59; done) | omega)
                    | skip
                      refine Z.j_seq ?_
                      refine Z.j_region ?_
                      refine Z.s_val (Z.pv_move rfl) ?_
                      refine Z.s_val (Z.pv_neq rfl rfl) ?_
                      refine Z.j_nil ?_
                      refine Z.j_then ?_
                      refine Z.j_cond rfl (fun hc66 => ?_) (fun hc66 => ?_)
                      · try (with_reducible first | replace hc66 := of_decide_eq_true hc66 | replace hc66 := of_decide_eq_false hc66 | replace hc66 := Z.nd_true hc66 | replace hc66 := Z.nd_false hc66 | replace hc66 := Z.nn_true hc66 | replace hc66 := Z.nn_false hc66 | replace hc66 := Z.nb_true hc66 | replace hc66 := Z.nb_false hc66)
                        first | exact absurd (errH_a (.inl hg62)) hc66 | exact absurd (errH_a (.inr hc59)) hc66
                      · try (with_reducible first | replace hc66 := of_decide_eq_true hc66 | replace hc66 := of_decide_eq_false hc66 | replace hc66 := Z.nd_true hc66 | replace hc66 := Z.nd_false hc66 | replace hc66 := Z.nn_true hc66 | replace hc66 := Z.nn_false hc66 | replace hc66 := Z.nb_true hc66 | replace hc66 := Z.nb_false hc66)
                        first
                        | (exfalso; first | (cases hc66; done) | omega)
                        | skip
                          refine Z.j_skip ?_
                          refine Z.j_blk ?_
                          refine Z.j_then ?_
                          refine Z.j_seq ?_
                          first
                          | (refine Z.j_cast (A := Z.MapP hb (Value.int .u64) (Value.int .i64) (Z.mput (ds.getD i 0) (i : Int) (hN m0 c3 ds i))) (B := Z.MapP hb (Value.int .u64) (Value.int .i64) (putH m0 (ds.getD i 0) i (hN m0 c3 ds i))) (by repeat (first | with_reducible exact Z.Take.here | apply Z.Take.there)) (by rw [putH_d hg62 hc59 hc67]) ?_)
                          | (refine Z.j_cast (A := Z.MapP hb (Value.int .u64) (Value.int .i64) (hN m0 c3 ds i)) (B := Z.MapP hb (Value.int .u64) (Value.int .i64) (putH m0 (ds.getD i 0) i (hN m0 c3 ds i))) (by repeat (first | with_reducible exact Z.Take.here | apply Z.Take.there)) (by first | rw [putH_a (.inl hg62)] | rw [putH_a (.inr hc59)] | rw [putH_c hg62 hc59 hc67]) ?_)
                          refine Z.j_region ?_
                          refine Z.s_val (Z.pv_move rfl) ?_
                          refine Z.s_val (Z.pv_bits rfl rfl rfl) ?_
                          refine Z.s_val (Z.pv_move rfl) ?_
                          refine Z.s_val (Z.pv_bits rfl rfl hc3) ?_
                          refine Z.s_val (Z.pv_eql rfl rfl) ?_
                          refine Z.j_nil ?_
                          refine Z.j_then ?_
                          refine Z.j_cond rfl (fun hc78 => ?_) (fun hc78 => ?_)
                          · try (with_reducible first | replace hc78 := of_decide_eq_true hc78 | replace hc78 := of_decide_eq_false hc78 | replace hc78 := Z.nd_true hc78 | replace hc78 := Z.nd_false hc78 | replace hc78 := Z.nn_true hc78 | replace hc78 := Z.nn_false hc78 | replace hc78 := Z.nb_true hc78 | replace hc78 := Z.nb_false hc78)
                            first
                            | (exfalso; first | (cases hc78; done) | omega)
                            | skip
                              refine Z.j_seq ?_
                              refine Z.j_region ?_
                              refine Z.s_val (Z.pv_move rfl) ?_
                              refine Z.s_val (Z.pv_move rfl) ?_
                              refine Z.s_val (Z.pv_indexAddr (o' := o1) (b := b1) (o := o1) (len := n1) (cap := cap1) (by show some (Value.slice p1 n1 cap1) = _; rw [e1]) rfl Try.underlying42 Try.sizeOf31 (by omega) (by simp)) ?_
                              refine Z.s_val (Z.pv_load1r (v := .int .u64 (ds.getD 0 0)) (b := b1) (o := o1) (j := 0) rfl hro1 rfl Try.isAgg31 (getmap (by omega))) ?_
                              refine Z.s_val (Z.pv_lookupOkZ (k := (ds.getD 0 0)) (venc := Value.int .i64) (m := (putH m0 (ds.getD i 0) i (hN m0 c3 ds i))) 0 rfl rfl Try.underlying30 kU64 Try.zeroValue3 (by repeat (first | with_reducible exact Z.Take.here | apply Z.Take.there))) ?_
                              refine Z.s_val (Z.pv_move rfl) ?_
                              refine Z.s_val (Z.pv_extract rfl rfl) ?_
                              refine Z.s_val (Z.pv_extract rfl rfl) ?_
                              refine Z.s_val (Z.pv_assign rfl) ?_
                              refine Z.s_val (Z.pv_assign rfl) ?_
                              refine Z.j_nil ?_
                              refine Z.j_then ?_
                              refine Z.j_seq ?_
                              refine Z.j_seq ?_
                              refine Z.j_region ?_
                              refine Z.s_val (Z.pv_move rfl) ?_
                              refine Z.s_val (Z.pv_move rfl) ?_
                              refine Z.s_val (Z.pv_indexAddr (o' := o1) (b := b1) (o := o1) (len := n1) (cap := cap1) (by show some (Value.slice p1 n1 cap1) = _; rw [e1]) rfl Try.underlying42 Try.sizeOf31 (by omega) (by simp)) ?_
                              refine Z.s_val (Z.pv_load1r (v := .int .u64 (ds.getD 0 0)) (b := b1) (o := o1) (j := 0) rfl hro1 rfl Try.isAgg31 (getmap (by omega))) ?_
                              refine Z.s_callD rfl rfl rfl isFn11 (by repeat (first | with_reducible exact Z.Takes.nil | (apply Z.Takes.cons; (repeat (first | with_reducible exact Z.Take.here | apply Z.Take.there))))) (by repeat (first | exact Z.App.nil | apply Z.App.cons)) (close_spec _ _ (tabH m0 (putH m0 (ds.getD i 0) i (hN m0 c3 ds i))) (ds.getD 0 0)) ?_
                              refine Z.s_val (Z.pv_move rfl) ?_
                              refine Z.s_val (Z.pv_neqb rfl rfl Try.underlying4) ?_
                              refine Z.j_nil ?_
                              refine Z.j_then ?_
                              refine Z.j_cond rfl (fun hc93 => ?_) (fun hc93 => ?_)
                              · try (with_reducible first | replace hc93 := of_decide_eq_true hc93 | replace hc93 := of_decide_eq_false hc93 | replace hc93 := Z.nd_true hc93 | replace hc93 := Z.nd_false hc93 | replace hc93 := Z.nn_true hc93 | replace hc93 := Z.nn_false hc93 | replace hc93 := Z.nb_true hc93 | replace hc93 := Z.nb_false hc93)
                                rw [some_H] at hc93; simp at hc93
                              · try (with_reducible first | replace hc93 := of_decide_eq_true hc93 | replace hc93 := of_decide_eq_false hc93 | replace hc93 := Z.nd_true hc93 | replace hc93 := Z.nd_false hc93 | replace hc93 := Z.nn_true hc93 | replace hc93 := Z.nn_false hc93 | replace hc93 := Z.nb_true hc93 | replace hc93 := Z.nb_false hc93)
                                first
                                | (exfalso; first | (cases hc93; done) | omega)
                                | skip
                                  refine Z.j_skip ?_
                                  refine Z.j_then ?_
                                  refine Z.j_region ?_
                                  refine Z.s_val (Z.pv_move rfl) ?_
                                  refine Z.s_val (Z.pv_move rfl) ?_
                                  refine Z.s_val (Z.pv_indexAddr (o' := o1) (b := b1) (o := o1) (len := n1) (cap := cap1) (by show some (Value.slice p1 n1 cap1) = _; rw [e1]) rfl Try.underlying42 Try.sizeOf31 (by omega) (by simp)) ?_
                                  refine Z.s_val (Z.pv_load1r (v := .int .u64 (ds.getD 0 0)) (b := b1) (o := o1) (j := 0) rfl hro1 rfl Try.isAgg31 (getmap (by omega))) ?_
                                  refine Z.s_delete0 (k := (ds.getD 0 0)) rfl rfl Try.underlying30 kU64 (by repeat (first | with_reducible exact Z.Take.here | apply Z.Take.there)) ?_
                                  refine Z.j_nil ?_
                                  refine Z.j_blk ?_
                                  refine Z.j_then ?_
                                  refine Z.j_region ?_
                                  refine Z.s_val (Z.pv_add rfl rfl (by first | exact IntWalk.i64_in _ (by omega) | rfl)) ?_
                                  refine Z.s_val (Z.pv_move rfl) ?_
                                  refine Z.j_nil ?_
                                  refine Z.j_then ?_
                                  first
                                  | (refine Z.j_cast (A := TabP tb ((tabH m0 (putH m0 (ds.getD i 0) i (hN m0 c3 ds i))).close (ds.getD 0 0))) (B := TabP tb (tabH m0 (hN m0 c3 ds (i + 1)))) (by repeat (first | with_reducible exact Z.Take.here | apply Z.Take.there)) (by rw [close_H, hN_t hc78]) ?_
                                     refine Z.j_cast (A := Z.MapP hb (Value.int .u64) (Value.int .i64) (Z.mdel (ds.getD 0 0) (putH m0 (ds.getD i 0) i (hN m0 c3 ds i)))) (B := Z.MapP hb (Value.int .u64) (Value.int .i64) (hN m0 c3 ds (i + 1))) (by repeat (first | with_reducible exact Z.Take.here | apply Z.Take.there)) (by rw [hN_t hc78]) ?_)
                                  | (refine Z.j_cast (A := TabP tb (tabH m0 (putH m0 (ds.getD i 0) i (hN m0 c3 ds i)))) (B := TabP tb (tabH m0 (hN m0 c3 ds (i + 1)))) (by repeat (first | with_reducible exact Z.Take.here | apply Z.Take.there)) (by rw [hN_f hc78]) ?_
                                     refine Z.j_cast (A := Z.MapP hb (Value.int .u64) (Value.int .i64) (putH m0 (ds.getD i 0) i (hN m0 c3 ds i))) (B := Z.MapP hb (Value.int .u64) (Value.int .i64) (hN m0 c3 ds (i + 1))) (by repeat (first | with_reducible exact Z.Take.here | apply Z.Take.there)) (by rw [hN_f hc78]) ?_)
                                  (refine Z.j_nextG (X := { x : (Nat) // (x) ≤ n1 }) (EE := (fun (x : { x : (Nat) // (x) ≤ n1 }) => [(0, .int .i64 m0), (1, .slice p1 n1 cap1), (2, .int .i64 close), (7, .pointer (some ⟨tb, 0, none⟩)), (9, .map (some hb)), (37, .slice p1 n1 cap1), (38, .int .i64 n1), (39, .int .i64 ((x.1) : Nat))])) (LL := (fun (x : { x : (Nat) // (x) ≤ n1 }) => [TabP tb (tabH m0 (hN m0 c3 ds (x.1))), Z.MapP hb (Value.int .u64) (Value.int .i64) (hN m0 c3 ds (x.1))])) (μ := (fun (x : { x : (Nat) // (x) ≤ n1 }) => n1 - (x.1))) (x := ⟨(i), hinv⟩) ⟨(i + 1), by omega⟩ ?_ ?_ ?_; (show n1 - (i + 1) < n1 - i; omega); (exact (by repeat (first | exact trivial | refine ⟨rfl, ?_⟩))); (exact Z.st_td (by repeat (first | with_reducible exact Z.Takes.nil | (apply Z.Takes.cons; (repeat (first | with_reducible exact Z.Take.here | apply Z.Take.there))))) (by repeat (first | with_reducible exact Z.Drop.nil | apply Z.Drop.cons))))
                          · try (with_reducible first | replace hc78 := of_decide_eq_true hc78 | replace hc78 := of_decide_eq_false hc78 | replace hc78 := Z.nd_true hc78 | replace hc78 := Z.nd_false hc78 | replace hc78 := Z.nn_true hc78 | replace hc78 := Z.nn_false hc78 | replace hc78 := Z.nb_true hc78 | replace hc78 := Z.nb_false hc78)
                            first
                            | (exfalso; first | (cases hc78; done) | omega)
                            | skip
                              refine Z.j_skip ?_
                              refine Z.j_blk ?_
                              refine Z.j_then ?_
                              refine Z.j_region ?_
                              refine Z.s_val (Z.pv_add rfl rfl (by first | exact IntWalk.i64_in _ (by omega) | rfl)) ?_
                              refine Z.s_val (Z.pv_move rfl) ?_
                              refine Z.j_nil ?_
                              refine Z.j_then ?_
                              first
                              | (refine Z.j_cast (A := TabP tb ((tabH m0 (putH m0 (ds.getD i 0) i (hN m0 c3 ds i))).close (ds.getD 0 0))) (B := TabP tb (tabH m0 (hN m0 c3 ds (i + 1)))) (by repeat (first | with_reducible exact Z.Take.here | apply Z.Take.there)) (by rw [close_H, hN_t hc78]) ?_
                                 refine Z.j_cast (A := Z.MapP hb (Value.int .u64) (Value.int .i64) (Z.mdel (ds.getD 0 0) (putH m0 (ds.getD i 0) i (hN m0 c3 ds i)))) (B := Z.MapP hb (Value.int .u64) (Value.int .i64) (hN m0 c3 ds (i + 1))) (by repeat (first | with_reducible exact Z.Take.here | apply Z.Take.there)) (by rw [hN_t hc78]) ?_)
                              | (refine Z.j_cast (A := TabP tb (tabH m0 (putH m0 (ds.getD i 0) i (hN m0 c3 ds i)))) (B := TabP tb (tabH m0 (hN m0 c3 ds (i + 1)))) (by repeat (first | with_reducible exact Z.Take.here | apply Z.Take.there)) (by rw [hN_f hc78]) ?_
                                 refine Z.j_cast (A := Z.MapP hb (Value.int .u64) (Value.int .i64) (putH m0 (ds.getD i 0) i (hN m0 c3 ds i))) (B := Z.MapP hb (Value.int .u64) (Value.int .i64) (hN m0 c3 ds (i + 1))) (by repeat (first | with_reducible exact Z.Take.here | apply Z.Take.there)) (by rw [hN_f hc78]) ?_)
                              (refine Z.j_nextG (X := { x : (Nat) // (x) ≤ n1 }) (EE := (fun (x : { x : (Nat) // (x) ≤ n1 }) => [(0, .int .i64 m0), (1, .slice p1 n1 cap1), (2, .int .i64 close), (7, .pointer (some ⟨tb, 0, none⟩)), (9, .map (some hb)), (37, .slice p1 n1 cap1), (38, .int .i64 n1), (39, .int .i64 ((x.1) : Nat))])) (LL := (fun (x : { x : (Nat) // (x) ≤ n1 }) => [TabP tb (tabH m0 (hN m0 c3 ds (x.1))), Z.MapP hb (Value.int .u64) (Value.int .i64) (hN m0 c3 ds (x.1))])) (μ := (fun (x : { x : (Nat) // (x) ≤ n1 }) => n1 - (x.1))) (x := ⟨(i), hinv⟩) ⟨(i + 1), by omega⟩ ?_ ?_ ?_; (show n1 - (i + 1) < n1 - i; omega); (exact (by repeat (first | exact trivial | refine ⟨rfl, ?_⟩))); (exact Z.st_td (by repeat (first | with_reducible exact Z.Takes.nil | (apply Z.Takes.cons; (repeat (first | with_reducible exact Z.Take.here | apply Z.Take.there))))) (by repeat (first | with_reducible exact Z.Drop.nil | apply Z.Drop.cons))))
                  · try (with_reducible first | replace hc59 := of_decide_eq_true hc59 | replace hc59 := of_decide_eq_false hc59 | replace hc59 := Z.nd_true hc59 | replace hc59 := Z.nd_false hc59 | replace hc59 := Z.nn_true hc59 | replace hc59 := Z.nn_false hc59 | replace hc59 := Z.nb_true hc59 | replace hc59 := Z.nb_false hc59)
                    first
                    | (exfalso; first | (cases hc59; done) | omega)
                    | skip
                      refine Z.j_seq ?_
                      refine Z.j_region ?_
                      refine Z.s_val (Z.pv_move rfl) ?_
                      refine Z.s_val (Z.pv_lenM rfl Try.underlying30 (by repeat (first | with_reducible exact Z.Take.here | apply Z.Take.there))) ?_
                      refine Z.s_val (Z.pv_move rfl) ?_
                      refine Z.s_val (Z.pv_eql rfl rfl) ?_
                      refine Z.s_val (Z.pv_assign rfl) ?_
                      refine Z.j_nil ?_
                      refine Z.j_then ?_
                      refine Z.j_cond rfl (fun hc67 => ?_) (fun hc67 => ?_)
                      · try (with_reducible first | replace hc67 := of_decide_eq_true hc67 | replace hc67 := of_decide_eq_false hc67 | replace hc67 := Z.nd_true hc67 | replace hc67 := Z.nd_false hc67 | replace hc67 := Z.nn_true hc67 | replace hc67 := Z.nn_false hc67 | replace hc67 := Z.nb_true hc67 | replace hc67 := Z.nb_false hc67)
                        first
                        | (exfalso; first | (cases hc67; done) | omega)
                        | skip
                          refine Z.j_seq ?_
                          refine Z.j_region ?_
                          refine Z.s_val (Z.pv_move rfl) ?_
                          refine Z.s_val (Z.pv_neq rfl rfl) ?_
                          refine Z.j_nil ?_
                          refine Z.j_then ?_
                          refine Z.j_cond rfl (fun hc73 => ?_) (fun hc73 => ?_)
                          · try (with_reducible first | replace hc73 := of_decide_eq_true hc73 | replace hc73 := of_decide_eq_false hc73 | replace hc73 := Z.nd_true hc73 | replace hc73 := Z.nd_false hc73 | replace hc73 := Z.nn_true hc73 | replace hc73 := Z.nn_false hc73 | replace hc73 := Z.nb_true hc73 | replace hc73 := Z.nb_false hc73)
                            exact absurd (errH_c hg62 hc59 hc67) hc73
                          · try (with_reducible first | replace hc73 := of_decide_eq_true hc73 | replace hc73 := of_decide_eq_false hc73 | replace hc73 := Z.nd_true hc73 | replace hc73 := Z.nd_false hc73 | replace hc73 := Z.nn_true hc73 | replace hc73 := Z.nn_false hc73 | replace hc73 := Z.nb_true hc73 | replace hc73 := Z.nb_false hc73)
                            first
                            | (exfalso; first | (cases hc73; done) | omega)
                            | skip
                              refine Z.j_skip ?_
                              refine Z.j_blk ?_
                              refine Z.j_then ?_
                              refine Z.j_seq ?_
                              first
                              | (refine Z.j_cast (A := Z.MapP hb (Value.int .u64) (Value.int .i64) (Z.mput (ds.getD i 0) (i : Int) (hN m0 c3 ds i))) (B := Z.MapP hb (Value.int .u64) (Value.int .i64) (putH m0 (ds.getD i 0) i (hN m0 c3 ds i))) (by repeat (first | with_reducible exact Z.Take.here | apply Z.Take.there)) (by rw [putH_d hg62 hc59 hc67]) ?_)
                              | (refine Z.j_cast (A := Z.MapP hb (Value.int .u64) (Value.int .i64) (hN m0 c3 ds i)) (B := Z.MapP hb (Value.int .u64) (Value.int .i64) (putH m0 (ds.getD i 0) i (hN m0 c3 ds i))) (by repeat (first | with_reducible exact Z.Take.here | apply Z.Take.there)) (by first | rw [putH_a (.inl hg62)] | rw [putH_a (.inr hc59)] | rw [putH_c hg62 hc59 hc67]) ?_)
                              refine Z.j_region ?_
                              refine Z.s_val (Z.pv_move rfl) ?_
                              refine Z.s_val (Z.pv_bits rfl rfl rfl) ?_
                              refine Z.s_val (Z.pv_move rfl) ?_
                              refine Z.s_val (Z.pv_bits rfl rfl hc3) ?_
                              refine Z.s_val (Z.pv_eql rfl rfl) ?_
                              refine Z.j_nil ?_
                              refine Z.j_then ?_
                              refine Z.j_cond rfl (fun hc78 => ?_) (fun hc78 => ?_)
                              · try (with_reducible first | replace hc78 := of_decide_eq_true hc78 | replace hc78 := of_decide_eq_false hc78 | replace hc78 := Z.nd_true hc78 | replace hc78 := Z.nd_false hc78 | replace hc78 := Z.nn_true hc78 | replace hc78 := Z.nn_false hc78 | replace hc78 := Z.nb_true hc78 | replace hc78 := Z.nb_false hc78)
                                first
                                | (exfalso; first | (cases hc78; done) | omega)
                                | skip
                                  refine Z.j_seq ?_
                                  refine Z.j_region ?_
                                  refine Z.s_val (Z.pv_move rfl) ?_
                                  refine Z.s_val (Z.pv_move rfl) ?_
                                  refine Z.s_val (Z.pv_indexAddr (o' := o1) (b := b1) (o := o1) (len := n1) (cap := cap1) (by show some (Value.slice p1 n1 cap1) = _; rw [e1]) rfl Try.underlying42 Try.sizeOf31 (by omega) (by simp)) ?_
                                  refine Z.s_val (Z.pv_load1r (v := .int .u64 (ds.getD 0 0)) (b := b1) (o := o1) (j := 0) rfl hro1 rfl Try.isAgg31 (getmap (by omega))) ?_
                                  refine Z.s_val (Z.pv_lookupOkZ (k := (ds.getD 0 0)) (venc := Value.int .i64) (m := (putH m0 (ds.getD i 0) i (hN m0 c3 ds i))) 0 rfl rfl Try.underlying30 kU64 Try.zeroValue3 (by repeat (first | with_reducible exact Z.Take.here | apply Z.Take.there))) ?_
                                  refine Z.s_val (Z.pv_move rfl) ?_
                                  refine Z.s_val (Z.pv_extract rfl rfl) ?_
                                  refine Z.s_val (Z.pv_extract rfl rfl) ?_
                                  refine Z.s_val (Z.pv_assign rfl) ?_
                                  refine Z.s_val (Z.pv_assign rfl) ?_
                                  refine Z.j_nil ?_
                                  refine Z.j_then ?_
                                  refine Z.j_seq ?_
                                  refine Z.j_seq ?_
                                  refine Z.j_region ?_
                                  refine Z.s_val (Z.pv_move rfl) ?_
                                  refine Z.s_val (Z.pv_move rfl) ?_
                                  refine Z.s_val (Z.pv_indexAddr (o' := o1) (b := b1) (o := o1) (len := n1) (cap := cap1) (by show some (Value.slice p1 n1 cap1) = _; rw [e1]) rfl Try.underlying42 Try.sizeOf31 (by omega) (by simp)) ?_
                                  refine Z.s_val (Z.pv_load1r (v := .int .u64 (ds.getD 0 0)) (b := b1) (o := o1) (j := 0) rfl hro1 rfl Try.isAgg31 (getmap (by omega))) ?_
                                  refine Z.s_callD rfl rfl rfl isFn11 (by repeat (first | with_reducible exact Z.Takes.nil | (apply Z.Takes.cons; (repeat (first | with_reducible exact Z.Take.here | apply Z.Take.there))))) (by repeat (first | exact Z.App.nil | apply Z.App.cons)) (close_spec _ _ (tabH m0 (putH m0 (ds.getD i 0) i (hN m0 c3 ds i))) (ds.getD 0 0)) ?_
                                  refine Z.s_val (Z.pv_move rfl) ?_
                                  refine Z.s_val (Z.pv_neqb rfl rfl Try.underlying4) ?_
                                  refine Z.j_nil ?_
                                  refine Z.j_then ?_
                                  refine Z.j_cond rfl (fun hc93 => ?_) (fun hc93 => ?_)
                                  · try (with_reducible first | replace hc93 := of_decide_eq_true hc93 | replace hc93 := of_decide_eq_false hc93 | replace hc93 := Z.nd_true hc93 | replace hc93 := Z.nd_false hc93 | replace hc93 := Z.nn_true hc93 | replace hc93 := Z.nn_false hc93 | replace hc93 := Z.nb_true hc93 | replace hc93 := Z.nb_false hc93)
                                    rw [some_H] at hc93; simp at hc93
                                  · try (with_reducible first | replace hc93 := of_decide_eq_true hc93 | replace hc93 := of_decide_eq_false hc93 | replace hc93 := Z.nd_true hc93 | replace hc93 := Z.nd_false hc93 | replace hc93 := Z.nn_true hc93 | replace hc93 := Z.nn_false hc93 | replace hc93 := Z.nb_true hc93 | replace hc93 := Z.nb_false hc93)
                                    first
                                    | (exfalso; first | (cases hc93; done) | omega)
                                    | skip
                                      refine Z.j_skip ?_
                                      refine Z.j_then ?_
                                      refine Z.j_region ?_
                                      refine Z.s_val (Z.pv_move rfl) ?_
                                      refine Z.s_val (Z.pv_move rfl) ?_
                                      refine Z.s_val (Z.pv_indexAddr (o' := o1) (b := b1) (o := o1) (len := n1) (cap := cap1) (by show some (Value.slice p1 n1 cap1) = _; rw [e1]) rfl Try.underlying42 Try.sizeOf31 (by omega) (by simp)) ?_
                                      refine Z.s_val (Z.pv_load1r (v := .int .u64 (ds.getD 0 0)) (b := b1) (o := o1) (j := 0) rfl hro1 rfl Try.isAgg31 (getmap (by omega))) ?_
                                      refine Z.s_delete0 (k := (ds.getD 0 0)) rfl rfl Try.underlying30 kU64 (by repeat (first | with_reducible exact Z.Take.here | apply Z.Take.there)) ?_
                                      refine Z.j_nil ?_
                                      refine Z.j_blk ?_
                                      refine Z.j_then ?_
                                      refine Z.j_region ?_
                                      refine Z.s_val (Z.pv_add rfl rfl (by first | exact IntWalk.i64_in _ (by omega) | rfl)) ?_
                                      refine Z.s_val (Z.pv_move rfl) ?_
                                      refine Z.j_nil ?_
                                      refine Z.j_then ?_
                                      first
                                      | (refine Z.j_cast (A := TabP tb ((tabH m0 (putH m0 (ds.getD i 0) i (hN m0 c3 ds i))).close (ds.getD 0 0))) (B := TabP tb (tabH m0 (hN m0 c3 ds (i + 1)))) (by repeat (first | with_reducible exact Z.Take.here | apply Z.Take.there)) (by rw [close_H, hN_t hc78]) ?_
                                         refine Z.j_cast (A := Z.MapP hb (Value.int .u64) (Value.int .i64) (Z.mdel (ds.getD 0 0) (putH m0 (ds.getD i 0) i (hN m0 c3 ds i)))) (B := Z.MapP hb (Value.int .u64) (Value.int .i64) (hN m0 c3 ds (i + 1))) (by repeat (first | with_reducible exact Z.Take.here | apply Z.Take.there)) (by rw [hN_t hc78]) ?_)
                                      | (refine Z.j_cast (A := TabP tb (tabH m0 (putH m0 (ds.getD i 0) i (hN m0 c3 ds i)))) (B := TabP tb (tabH m0 (hN m0 c3 ds (i + 1)))) (by repeat (first | with_reducible exact Z.Take.here | apply Z.Take.there)) (by rw [hN_f hc78]) ?_
                                         refine Z.j_cast (A := Z.MapP hb (Value.int .u64) (Value.int .i64) (putH m0 (ds.getD i 0) i (hN m0 c3 ds i))) (B := Z.MapP hb (Value.int .u64) (Value.int .i64) (hN m0 c3 ds (i + 1))) (by repeat (first | with_reducible exact Z.Take.here | apply Z.Take.there)) (by rw [hN_f hc78]) ?_)
                                      (refine Z.j_nextG (X := { x : (Nat) // (x) ≤ n1 }) (EE := (fun (x : { x : (Nat) // (x) ≤ n1 }) => [(0, .int .i64 m0), (1, .slice p1 n1 cap1), (2, .int .i64 close), (7, .pointer (some ⟨tb, 0, none⟩)), (9, .map (some hb)), (37, .slice p1 n1 cap1), (38, .int .i64 n1), (39, .int .i64 ((x.1) : Nat))])) (LL := (fun (x : { x : (Nat) // (x) ≤ n1 }) => [TabP tb (tabH m0 (hN m0 c3 ds (x.1))), Z.MapP hb (Value.int .u64) (Value.int .i64) (hN m0 c3 ds (x.1))])) (μ := (fun (x : { x : (Nat) // (x) ≤ n1 }) => n1 - (x.1))) (x := ⟨(i), hinv⟩) ⟨(i + 1), by omega⟩ ?_ ?_ ?_; (show n1 - (i + 1) < n1 - i; omega); (exact (by repeat (first | exact trivial | refine ⟨rfl, ?_⟩))); (exact Z.st_td (by repeat (first | with_reducible exact Z.Takes.nil | (apply Z.Takes.cons; (repeat (first | with_reducible exact Z.Take.here | apply Z.Take.there))))) (by repeat (first | with_reducible exact Z.Drop.nil | apply Z.Drop.cons))))
                              · try (with_reducible first | replace hc78 := of_decide_eq_true hc78 | replace hc78 := of_decide_eq_false hc78 | replace hc78 := Z.nd_true hc78 | replace hc78 := Z.nd_false hc78 | replace hc78 := Z.nn_true hc78 | replace hc78 := Z.nn_false hc78 | replace hc78 := Z.nb_true hc78 | replace hc78 := Z.nb_false hc78)
                                first
                                | (exfalso; first | (cases hc78; done) | omega)
                                | skip
                                  refine Z.j_skip ?_
                                  refine Z.j_blk ?_
                                  refine Z.j_then ?_
                                  refine Z.j_region ?_
                                  refine Z.s_val (Z.pv_add rfl rfl (by first | exact IntWalk.i64_in _ (by omega) | rfl)) ?_
                                  refine Z.s_val (Z.pv_move rfl) ?_
                                  refine Z.j_nil ?_
                                  refine Z.j_then ?_
                                  first
                                  | (refine Z.j_cast (A := TabP tb ((tabH m0 (putH m0 (ds.getD i 0) i (hN m0 c3 ds i))).close (ds.getD 0 0))) (B := TabP tb (tabH m0 (hN m0 c3 ds (i + 1)))) (by repeat (first | with_reducible exact Z.Take.here | apply Z.Take.there)) (by rw [close_H, hN_t hc78]) ?_
                                     refine Z.j_cast (A := Z.MapP hb (Value.int .u64) (Value.int .i64) (Z.mdel (ds.getD 0 0) (putH m0 (ds.getD i 0) i (hN m0 c3 ds i)))) (B := Z.MapP hb (Value.int .u64) (Value.int .i64) (hN m0 c3 ds (i + 1))) (by repeat (first | with_reducible exact Z.Take.here | apply Z.Take.there)) (by rw [hN_t hc78]) ?_)
                                  | (refine Z.j_cast (A := TabP tb (tabH m0 (putH m0 (ds.getD i 0) i (hN m0 c3 ds i)))) (B := TabP tb (tabH m0 (hN m0 c3 ds (i + 1)))) (by repeat (first | with_reducible exact Z.Take.here | apply Z.Take.there)) (by rw [hN_f hc78]) ?_
                                     refine Z.j_cast (A := Z.MapP hb (Value.int .u64) (Value.int .i64) (putH m0 (ds.getD i 0) i (hN m0 c3 ds i))) (B := Z.MapP hb (Value.int .u64) (Value.int .i64) (hN m0 c3 ds (i + 1))) (by repeat (first | with_reducible exact Z.Take.here | apply Z.Take.there)) (by rw [hN_f hc78]) ?_)
                                  (refine Z.j_nextG (X := { x : (Nat) // (x) ≤ n1 }) (EE := (fun (x : { x : (Nat) // (x) ≤ n1 }) => [(0, .int .i64 m0), (1, .slice p1 n1 cap1), (2, .int .i64 close), (7, .pointer (some ⟨tb, 0, none⟩)), (9, .map (some hb)), (37, .slice p1 n1 cap1), (38, .int .i64 n1), (39, .int .i64 ((x.1) : Nat))])) (LL := (fun (x : { x : (Nat) // (x) ≤ n1 }) => [TabP tb (tabH m0 (hN m0 c3 ds (x.1))), Z.MapP hb (Value.int .u64) (Value.int .i64) (hN m0 c3 ds (x.1))])) (μ := (fun (x : { x : (Nat) // (x) ≤ n1 }) => n1 - (x.1))) (x := ⟨(i), hinv⟩) ⟨(i + 1), by omega⟩ ?_ ?_ ?_; (show n1 - (i + 1) < n1 - i; omega); (exact (by repeat (first | exact trivial | refine ⟨rfl, ?_⟩))); (exact Z.st_td (by repeat (first | with_reducible exact Z.Takes.nil | (apply Z.Takes.cons; (repeat (first | with_reducible exact Z.Take.here | apply Z.Take.there))))) (by repeat (first | with_reducible exact Z.Drop.nil | apply Z.Drop.cons))))
                      · try (with_reducible first | replace hc67 := of_decide_eq_true hc67 | replace hc67 := of_decide_eq_false hc67 | replace hc67 := Z.nd_true hc67 | replace hc67 := Z.nd_false hc67 | replace hc67 := Z.nn_true hc67 | replace hc67 := Z.nn_false hc67 | replace hc67 := Z.nb_true hc67 | replace hc67 := Z.nb_false hc67)
                        first
                        | (exfalso; first | (cases hc67; done) | omega)
                        | skip
                          refine Z.j_seq ?_
                          refine Z.j_seq ?_
                          refine Z.j_region ?_
                          refine Z.s_val (Z.pv_move rfl) ?_
                          refine Z.s_val (Z.pv_neq rfl rfl) ?_
                          refine Z.j_nil ?_
                          refine Z.j_then ?_
                          refine Z.j_cond rfl (fun hc55 => ?_) (fun hc55 => ?_)
                          · try (with_reducible first | replace hc55 := of_decide_eq_true hc55 | replace hc55 := of_decide_eq_false hc55 | replace hc55 := Z.nd_true hc55 | replace hc55 := Z.nd_false hc55 | replace hc55 := Z.nn_true hc55 | replace hc55 := Z.nn_false hc55 | replace hc55 := Z.nb_true hc55 | replace hc55 := Z.nb_false hc55)
                            exact absurd (errH_d hg62 hc59 hc67) hc55
                          · try (with_reducible first | replace hc55 := of_decide_eq_true hc55 | replace hc55 := of_decide_eq_false hc55 | replace hc55 := Z.nd_true hc55 | replace hc55 := Z.nd_false hc55 | replace hc55 := Z.nn_true hc55 | replace hc55 := Z.nn_false hc55 | replace hc55 := Z.nb_true hc55 | replace hc55 := Z.nb_false hc55)
                            first
                            | (exfalso; first | (cases hc55; done) | omega)
                            | skip
                              refine Z.j_skip ?_
                              refine Z.j_then ?_
                              refine Z.j_region ?_
                              refine Z.s_val (Z.pv_move rfl) ?_
                              refine Z.s_val (Z.pv_move rfl) ?_
                              refine Z.s_val (Z.pv_move rfl) ?_
                              refine Z.s_mapUpdate (k := ds.getD i 0) (v := (i : Int)) rfl rfl rfl Try.underlying30 kU64 (by repeat (first | with_reducible exact Z.Take.here | apply Z.Take.there)) ?_
                              refine Z.j_nil ?_
                              refine Z.j_blk ?_
                              refine Z.j_then ?_
                              refine Z.j_seq ?_
                              first
                              | (refine Z.j_cast (A := Z.MapP hb (Value.int .u64) (Value.int .i64) (Z.mput (ds.getD i 0) (i : Int) (hN m0 c3 ds i))) (B := Z.MapP hb (Value.int .u64) (Value.int .i64) (putH m0 (ds.getD i 0) i (hN m0 c3 ds i))) (by repeat (first | with_reducible exact Z.Take.here | apply Z.Take.there)) (by rw [putH_d hg62 hc59 hc67]) ?_)
                              | (refine Z.j_cast (A := Z.MapP hb (Value.int .u64) (Value.int .i64) (hN m0 c3 ds i)) (B := Z.MapP hb (Value.int .u64) (Value.int .i64) (putH m0 (ds.getD i 0) i (hN m0 c3 ds i))) (by repeat (first | with_reducible exact Z.Take.here | apply Z.Take.there)) (by first | rw [putH_a (.inl hg62)] | rw [putH_a (.inr hc59)] | rw [putH_c hg62 hc59 hc67]) ?_)
                              refine Z.j_region ?_
                              refine Z.s_val (Z.pv_move rfl) ?_
                              refine Z.s_val (Z.pv_bits rfl rfl rfl) ?_
                              refine Z.s_val (Z.pv_move rfl) ?_
                              refine Z.s_val (Z.pv_bits rfl rfl hc3) ?_
                              refine Z.s_val (Z.pv_eql rfl rfl) ?_
                              refine Z.j_nil ?_
                              refine Z.j_then ?_
                              refine Z.j_cond rfl (fun hc78 => ?_) (fun hc78 => ?_)
                              · try (with_reducible first | replace hc78 := of_decide_eq_true hc78 | replace hc78 := of_decide_eq_false hc78 | replace hc78 := Z.nd_true hc78 | replace hc78 := Z.nd_false hc78 | replace hc78 := Z.nn_true hc78 | replace hc78 := Z.nn_false hc78 | replace hc78 := Z.nb_true hc78 | replace hc78 := Z.nb_false hc78)
                                first
                                | (exfalso; first | (cases hc78; done) | omega)
                                | skip
                                  refine Z.j_seq ?_
                                  refine Z.j_region ?_
                                  refine Z.s_val (Z.pv_move rfl) ?_
                                  refine Z.s_val (Z.pv_move rfl) ?_
                                  refine Z.s_val (Z.pv_indexAddr (o' := o1) (b := b1) (o := o1) (len := n1) (cap := cap1) (by show some (Value.slice p1 n1 cap1) = _; rw [e1]) rfl Try.underlying42 Try.sizeOf31 (by omega) (by simp)) ?_
                                  refine Z.s_val (Z.pv_load1r (v := .int .u64 (ds.getD 0 0)) (b := b1) (o := o1) (j := 0) rfl hro1 rfl Try.isAgg31 (getmap (by omega))) ?_
                                  refine Z.s_val (Z.pv_lookupOkZ (k := (ds.getD 0 0)) (venc := Value.int .i64) (m := (putH m0 (ds.getD i 0) i (hN m0 c3 ds i))) 0 rfl rfl Try.underlying30 kU64 Try.zeroValue3 (by repeat (first | with_reducible exact Z.Take.here | apply Z.Take.there))) ?_
                                  refine Z.s_val (Z.pv_move rfl) ?_
                                  refine Z.s_val (Z.pv_extract rfl rfl) ?_
                                  refine Z.s_val (Z.pv_extract rfl rfl) ?_
                                  refine Z.s_val (Z.pv_assign rfl) ?_
                                  refine Z.s_val (Z.pv_assign rfl) ?_
                                  refine Z.j_nil ?_
                                  refine Z.j_then ?_
                                  refine Z.j_seq ?_
                                  refine Z.j_seq ?_
                                  refine Z.j_region ?_
                                  refine Z.s_val (Z.pv_move rfl) ?_
                                  refine Z.s_val (Z.pv_move rfl) ?_
                                  refine Z.s_val (Z.pv_indexAddr (o' := o1) (b := b1) (o := o1) (len := n1) (cap := cap1) (by show some (Value.slice p1 n1 cap1) = _; rw [e1]) rfl Try.underlying42 Try.sizeOf31 (by omega) (by simp)) ?_
                                  refine Z.s_val (Z.pv_load1r (v := .int .u64 (ds.getD 0 0)) (b := b1) (o := o1) (j := 0) rfl hro1 rfl Try.isAgg31 (getmap (by omega))) ?_
                                  refine Z.s_callD rfl rfl rfl isFn11 (by repeat (first | with_reducible exact Z.Takes.nil | (apply Z.Takes.cons; (repeat (first | with_reducible exact Z.Take.here | apply Z.Take.there))))) (by repeat (first | exact Z.App.nil | apply Z.App.cons)) (close_spec _ _ (tabH m0 (putH m0 (ds.getD i 0) i (hN m0 c3 ds i))) (ds.getD 0 0)) ?_
                                  refine Z.s_val (Z.pv_move rfl) ?_
                                  refine Z.s_val (Z.pv_neqb rfl rfl Try.underlying4) ?_
                                  refine Z.j_nil ?_
                                  refine Z.j_then ?_
                                  refine Z.j_cond rfl (fun hc93 => ?_) (fun hc93 => ?_)
                                  · try (with_reducible first | replace hc93 := of_decide_eq_true hc93 | replace hc93 := of_decide_eq_false hc93 | replace hc93 := Z.nd_true hc93 | replace hc93 := Z.nd_false hc93 | replace hc93 := Z.nn_true hc93 | replace hc93 := Z.nn_false hc93 | replace hc93 := Z.nb_true hc93 | replace hc93 := Z.nb_false hc93)
                                    rw [some_H] at hc93; simp at hc93
                                  · try (with_reducible first | replace hc93 := of_decide_eq_true hc93 | replace hc93 := of_decide_eq_false hc93 | replace hc93 := Z.nd_true hc93 | replace hc93 := Z.nd_false hc93 | replace hc93 := Z.nn_true hc93 | replace hc93 := Z.nn_false hc93 | replace hc93 := Z.nb_true hc93 | replace hc93 := Z.nb_false hc93)
                                    first
                                    | (exfalso; first | (cases hc93; done) | omega)
                                    | skip
                                      refine Z.j_skip ?_
                                      refine Z.j_then ?_
                                      refine Z.j_region ?_
                                      refine Z.s_val (Z.pv_move rfl) ?_
                                      refine Z.s_val (Z.pv_move rfl) ?_
                                      refine Z.s_val (Z.pv_indexAddr (o' := o1) (b := b1) (o := o1) (len := n1) (cap := cap1) (by show some (Value.slice p1 n1 cap1) = _; rw [e1]) rfl Try.underlying42 Try.sizeOf31 (by omega) (by simp)) ?_
                                      refine Z.s_val (Z.pv_load1r (v := .int .u64 (ds.getD 0 0)) (b := b1) (o := o1) (j := 0) rfl hro1 rfl Try.isAgg31 (getmap (by omega))) ?_
                                      refine Z.s_delete0 (k := (ds.getD 0 0)) rfl rfl Try.underlying30 kU64 (by repeat (first | with_reducible exact Z.Take.here | apply Z.Take.there)) ?_
                                      refine Z.j_nil ?_
                                      refine Z.j_blk ?_
                                      refine Z.j_then ?_
                                      refine Z.j_region ?_
                                      refine Z.s_val (Z.pv_add rfl rfl (by first | exact IntWalk.i64_in _ (by omega) | rfl)) ?_
                                      refine Z.s_val (Z.pv_move rfl) ?_
                                      refine Z.j_nil ?_
                                      refine Z.j_then ?_
                                      first
                                      | (refine Z.j_cast (A := TabP tb ((tabH m0 (putH m0 (ds.getD i 0) i (hN m0 c3 ds i))).close (ds.getD 0 0))) (B := TabP tb (tabH m0 (hN m0 c3 ds (i + 1)))) (by repeat (first | with_reducible exact Z.Take.here | apply Z.Take.there)) (by rw [close_H, hN_t hc78]) ?_
                                         refine Z.j_cast (A := Z.MapP hb (Value.int .u64) (Value.int .i64) (Z.mdel (ds.getD 0 0) (putH m0 (ds.getD i 0) i (hN m0 c3 ds i)))) (B := Z.MapP hb (Value.int .u64) (Value.int .i64) (hN m0 c3 ds (i + 1))) (by repeat (first | with_reducible exact Z.Take.here | apply Z.Take.there)) (by rw [hN_t hc78]) ?_)
                                      | (refine Z.j_cast (A := TabP tb (tabH m0 (putH m0 (ds.getD i 0) i (hN m0 c3 ds i)))) (B := TabP tb (tabH m0 (hN m0 c3 ds (i + 1)))) (by repeat (first | with_reducible exact Z.Take.here | apply Z.Take.there)) (by rw [hN_f hc78]) ?_
                                         refine Z.j_cast (A := Z.MapP hb (Value.int .u64) (Value.int .i64) (putH m0 (ds.getD i 0) i (hN m0 c3 ds i))) (B := Z.MapP hb (Value.int .u64) (Value.int .i64) (hN m0 c3 ds (i + 1))) (by repeat (first | with_reducible exact Z.Take.here | apply Z.Take.there)) (by rw [hN_f hc78]) ?_)
                                      (refine Z.j_nextG (X := { x : (Nat) // (x) ≤ n1 }) (EE := (fun (x : { x : (Nat) // (x) ≤ n1 }) => [(0, .int .i64 m0), (1, .slice p1 n1 cap1), (2, .int .i64 close), (7, .pointer (some ⟨tb, 0, none⟩)), (9, .map (some hb)), (37, .slice p1 n1 cap1), (38, .int .i64 n1), (39, .int .i64 ((x.1) : Nat))])) (LL := (fun (x : { x : (Nat) // (x) ≤ n1 }) => [TabP tb (tabH m0 (hN m0 c3 ds (x.1))), Z.MapP hb (Value.int .u64) (Value.int .i64) (hN m0 c3 ds (x.1))])) (μ := (fun (x : { x : (Nat) // (x) ≤ n1 }) => n1 - (x.1))) (x := ⟨(i), hinv⟩) ⟨(i + 1), by omega⟩ ?_ ?_ ?_; (show n1 - (i + 1) < n1 - i; omega); (exact (by repeat (first | exact trivial | refine ⟨rfl, ?_⟩))); (exact Z.st_td (by repeat (first | with_reducible exact Z.Takes.nil | (apply Z.Takes.cons; (repeat (first | with_reducible exact Z.Take.here | apply Z.Take.there))))) (by repeat (first | with_reducible exact Z.Drop.nil | apply Z.Drop.cons))))
                              · try (with_reducible first | replace hc78 := of_decide_eq_true hc78 | replace hc78 := of_decide_eq_false hc78 | replace hc78 := Z.nd_true hc78 | replace hc78 := Z.nd_false hc78 | replace hc78 := Z.nn_true hc78 | replace hc78 := Z.nn_false hc78 | replace hc78 := Z.nb_true hc78 | replace hc78 := Z.nb_false hc78)
                                first
                                | (exfalso; first | (cases hc78; done) | omega)
                                | skip
                                  refine Z.j_skip ?_
                                  refine Z.j_blk ?_
                                  refine Z.j_then ?_
                                  refine Z.j_region ?_
                                  refine Z.s_val (Z.pv_add rfl rfl (by first | exact IntWalk.i64_in _ (by omega) | rfl)) ?_
                                  refine Z.s_val (Z.pv_move rfl) ?_
                                  refine Z.j_nil ?_
                                  refine Z.j_then ?_
                                  first
                                  | (refine Z.j_cast (A := TabP tb ((tabH m0 (putH m0 (ds.getD i 0) i (hN m0 c3 ds i))).close (ds.getD 0 0))) (B := TabP tb (tabH m0 (hN m0 c3 ds (i + 1)))) (by repeat (first | with_reducible exact Z.Take.here | apply Z.Take.there)) (by rw [close_H, hN_t hc78]) ?_
                                     refine Z.j_cast (A := Z.MapP hb (Value.int .u64) (Value.int .i64) (Z.mdel (ds.getD 0 0) (putH m0 (ds.getD i 0) i (hN m0 c3 ds i)))) (B := Z.MapP hb (Value.int .u64) (Value.int .i64) (hN m0 c3 ds (i + 1))) (by repeat (first | with_reducible exact Z.Take.here | apply Z.Take.there)) (by rw [hN_t hc78]) ?_)
                                  | (refine Z.j_cast (A := TabP tb (tabH m0 (putH m0 (ds.getD i 0) i (hN m0 c3 ds i)))) (B := TabP tb (tabH m0 (hN m0 c3 ds (i + 1)))) (by repeat (first | with_reducible exact Z.Take.here | apply Z.Take.there)) (by rw [hN_f hc78]) ?_
                                     refine Z.j_cast (A := Z.MapP hb (Value.int .u64) (Value.int .i64) (putH m0 (ds.getD i 0) i (hN m0 c3 ds i))) (B := Z.MapP hb (Value.int .u64) (Value.int .i64) (hN m0 c3 ds (i + 1))) (by repeat (first | with_reducible exact Z.Take.here | apply Z.Take.there)) (by rw [hN_f hc78]) ?_)
                                  (refine Z.j_nextG (X := { x : (Nat) // (x) ≤ n1 }) (EE := (fun (x : { x : (Nat) // (x) ≤ n1 }) => [(0, .int .i64 m0), (1, .slice p1 n1 cap1), (2, .int .i64 close), (7, .pointer (some ⟨tb, 0, none⟩)), (9, .map (some hb)), (37, .slice p1 n1 cap1), (38, .int .i64 n1), (39, .int .i64 ((x.1) : Nat))])) (LL := (fun (x : { x : (Nat) // (x) ≤ n1 }) => [TabP tb (tabH m0 (hN m0 c3 ds (x.1))), Z.MapP hb (Value.int .u64) (Value.int .i64) (hN m0 c3 ds (x.1))])) (μ := (fun (x : { x : (Nat) // (x) ≤ n1 }) => n1 - (x.1))) (x := ⟨(i), hinv⟩) ⟨(i + 1), by omega⟩ ?_ ?_ ?_; (show n1 - (i + 1) < n1 - i; omega); (exact (by repeat (first | exact trivial | refine ⟨rfl, ?_⟩))); (exact Z.st_td (by repeat (first | with_reducible exact Z.Takes.nil | (apply Z.Takes.cons; (repeat (first | with_reducible exact Z.Take.here | apply Z.Take.there))))) (by repeat (first | with_reducible exact Z.Drop.nil | apply Z.Drop.cons))))
          · try (with_reducible first | replace hc40 := of_decide_eq_true hc40 | replace hc40 := of_decide_eq_false hc40 | replace hc40 := Z.nd_true hc40 | replace hc40 := Z.nd_false hc40 | replace hc40 := Z.nn_true hc40 | replace hc40 := Z.nn_false hc40 | replace hc40 := Z.nb_true hc40 | replace hc40 := Z.nb_false hc40)
            first
            | (exfalso; first | (cases hc40; done) | omega)
            | skip
              have eN : n1 = i := by omega
              subst eN
              obtain ⟨hk1, hk2⟩ := hN_ok (m0 := m0) (c3 := c3) (ds := ds) (by omega) n1
              refine Z.j_exit ?_
              refine Z.j_then_exit ?_
              refine Z.j_then_exit ?_
              refine Z.j_blk_here rfl ?_
              refine Z.j_then ?_
              refine Z.j_seq ?_
              refine Z.j_region ?_
              refine Z.s_val (Z.pv_move rfl) ?_
              refine Z.s_call rfl rfl rfl isFn15 (by repeat (first | with_reducible exact Z.Takes.nil | (apply Z.Takes.cons; (repeat (first | with_reducible exact Z.Take.here | apply Z.Take.there))))) (sessions_spec _ _ (tabH m0 (hN m0 c3 ds n1)) 1000 (by simp [tabH]; omega)) ?_
              rintro _ _ ⟨vx, vy, rfl, rfl⟩
              rw [ss_H (by omega)]
              have hpl := pairs_len (tabH m0 (hN m0 c3 ds n1))
              have hpt : (tabH m0 (hN m0 c3 ds n1)).m.length = (hN m0 c3 ds n1).length := by simp [tabH]
              refine Z.j_app (by repeat (first | exact Z.App.nil | apply Z.App.cons)) ?_
              refine Z.s_val (Z.pv_move rfl) ?_
              refine Z.s_val (Z.pv_extract rfl rfl) ?_
              refine Z.s_val (Z.pv_extract rfl rfl) ?_
              refine Z.s_val (Z.pv_assign rfl) ?_
              refine Z.s_val (Z.pv_assign rfl) ?_
              refine Z.j_nil ?_
              refine Z.j_then ?_
              refine Z.j_seq ?_
              refine Z.j_seq ?_
              refine Z.j_region ?_
              refine Z.s_val (Z.pv_move rfl) ?_
              refine Z.s_val (Z.pv_lenO rfl (by repeat (first | with_reducible exact Z.Take.here | apply Z.Take.there)) Try.underlying42) ?_
              refine Z.s_val (Z.pv_move rfl) ?_
              refine Z.j_nil ?_
              refine Z.j_then ?_
              refine Z.j_block ?_
              refine Z.j_initF (E' := [(7, .pointer (some ⟨tb, 0, none⟩)), (9, .map (some hb)), (17, vx), (18, vy), (104, vx), (105, .int .i64 (pairs (tabH m0 (hN m0 c3 ds n1))).length), (106, .int .i64 ((0) : Nat))]) (As := [TabP tb (tabH m0 (hN m0 c3 ds n1)), Z.MapP hb (Value.int .u64) (Value.int .i64) (hN m0 c3 ds n1), Z.Own 31 1 vx (pairs (tabH m0 (hN m0 c3 ds n1))).length (u64s ((pairs (tabH m0 (hN m0 c3 ds n1))).map (·.1))), Z.Own 3 1 vy (pairs (tabH m0 (hN m0 c3 ds n1))).length (i64s ((pairs (tabH m0 (hN m0 c3 ds n1))).map (·.2)))]) (Fr := Fr) (by repeat (first | exact trivial | refine ⟨rfl, ?_⟩)) (by repeat (first | with_reducible exact Z.Takes.nil | (apply Z.Takes.cons; (repeat (first | with_reducible exact Z.Take.here | apply Z.Take.there))))) (by repeat (first | with_reducible exact Z.Drop.nil | apply Z.Drop.cons)) ?_
              refine Z.j_loop (X := { x : (Nat) // (x) ≤ (pairs (tabH m0 (hN m0 c3 ds n1))).length }) (fun (x : { x : (Nat) // (x) ≤ (pairs (tabH m0 (hN m0 c3 ds n1))).length }) => [(7, .pointer (some ⟨tb, 0, none⟩)), (9, .map (some hb)), (17, vx), (18, vy), (104, vx), (105, .int .i64 (pairs (tabH m0 (hN m0 c3 ds n1))).length), (106, .int .i64 ((x.1) : Nat))]) (fun x => (fun (x : { x : (Nat) // (x) ≤ (pairs (tabH m0 (hN m0 c3 ds n1))).length }) => [TabP tb (tabH m0 (hN m0 c3 ds n1)), Z.MapP hb (Value.int .u64) (Value.int .i64) (hN m0 c3 ds n1), Z.Own 31 1 vx (pairs (tabH m0 (hN m0 c3 ds n1))).length (u64s ((pairs (tabH m0 (hN m0 c3 ds n1))).map (·.1))), Z.Own 3 1 vy (pairs (tabH m0 (hN m0 c3 ds n1))).length (i64s ((pairs (tabH m0 (hN m0 c3 ds n1))).map (·.2)))]) x ++ Fr) (fun (x : { x : (Nat) // (x) ≤ (pairs (tabH m0 (hN m0 c3 ds n1))).length }) => (pairs (tabH m0 (hN m0 c3 ds n1))).length - (x.1)) ⟨(0), by omega⟩ (fun x => ?_)
              obtain ⟨i, hinv⟩ := x
              have hinv' : i ≤ (pairs (tabH m0 (hN m0 c3 ds n1))).length := hinv
              have hi := hinv'
              show Z.J _ _ _ ([(7, .pointer (some ⟨tb, 0, none⟩)), (9, .map (some hb)), (17, vx), (18, vy), (104, vx), (105, .int .i64 (pairs (tabH m0 (hN m0 c3 ds n1))).length), (106, .int .i64 (i : Nat))]) ([TabP tb (tabH m0 (hN m0 c3 ds n1)), Z.MapP hb (Value.int .u64) (Value.int .i64) (hN m0 c3 ds n1), Z.Own 31 1 vx (pairs (tabH m0 (hN m0 c3 ds n1))).length (u64s ((pairs (tabH m0 (hN m0 c3 ds n1))).map (·.1))), Z.Own 3 1 vy (pairs (tabH m0 (hN m0 c3 ds n1))).length (i64s ((pairs (tabH m0 (hN m0 c3 ds n1))).map (·.2)))] ++ Fr) _
              refine Z.j_app (by repeat (first | exact Z.App.nil | apply Z.App.cons)) ?_
              refine Z.j_seq ?_
              refine Z.j_region ?_
              refine Z.s_val (Z.pv_lss rfl rfl) ?_
              refine Z.j_nil ?_
              refine Z.j_then ?_
              refine Z.j_seq ?_
              refine Z.j_cond rfl (fun hc107 => ?_) (fun hc107 => ?_)
              · try (with_reducible first | replace hc107 := of_decide_eq_true hc107 | replace hc107 := of_decide_eq_false hc107 | replace hc107 := Z.nd_true hc107 | replace hc107 := Z.nd_false hc107 | replace hc107 := Z.nn_true hc107 | replace hc107 := Z.nn_false hc107 | replace hc107 := Z.nb_true hc107 | replace hc107 := Z.nb_false hc107)
                first
                | (exfalso; first | (cases hc107; done) | omega)
                | skip
                  have hks := kAt_H (m0 := m0) (H := (hN m0 c3 ds n1)) (i := i) (by omega)
                  have hkl := kAt_lt (t := (tabH m0 (hN m0 c3 ds n1))) (i := i) (by rw [show (tabH m0 (hN m0 c3 ds n1)).m = ((hN m0 c3 ds n1)).map fS from rfl, ks_fS]; exact hk1) (by omega)
                  have hms : (Z.mget (kAt (tabH m0 (hN m0 c3 ds n1)) i) (hN m0 c3 ds n1)).isSome = true := by rw [hks]; rfl
                  have hmv : Z.mval (kAt (tabH m0 (hN m0 c3 ds n1)) i) 0 (hN m0 c3 ds n1) = (pAt (tabH m0 (hN m0 c3 ds n1)) i).2 := by unfold Z.mval; rw [hks]
                  refine Z.j_skip ?_
                  refine Z.j_then ?_
                  refine Z.j_seq ?_
                  refine Z.j_block ?_
                  refine Z.j_seq ?_
                  refine Z.j_unown (T := 31) (k := 1) (v := vx) (by repeat (first | with_reducible exact Z.Take.here | apply Z.Take.there)) (fun e1 e2 e3 => by exfalso; omega) (fun nbx capx spx e1x e2x e3x => ?_)
                  refine Z.j_unown (T := 3) (k := 1) (v := vy) (by repeat (first | with_reducible exact Z.Take.here | apply Z.Take.there)) (fun e1 e2 e3 => by exfalso; omega) (fun nby capy spy e1y e2y e3y => ?_)
                  refine Z.j_region ?_
                  refine Z.s_val (Z.pv_move rfl) ?_
                  refine Z.s_val (Z.pv_indexAddr (o' := i) (b := nbx) (o := 0) (len := (pairs (tabH m0 (hN m0 c3 ds n1))).length) (cap := capx) (by show some vx = _; rw [e1x]) rfl Try.underlying42 Try.sizeOf31 (by omega) (by simp)) ?_
                  refine Z.s_val (Z.pv_load1 (v := .int .u64 (kAt (tabH m0 (hN m0 c3 ds n1)) i)) rfl (by repeat (first | with_reducible exact Z.Take.here | apply Z.Take.there)) Try.isAgg31 (ks_get (by omega) _)) ?_
                  refine Z.s_val (Z.pv_assign rfl) ?_
                  refine Z.s_val (Z.pv_assign rfl) ?_
                  refine Z.j_nil ?_
                  refine Z.j_then ?_
                  refine Z.j_seq ?_
                  refine Z.j_region ?_
                  refine Z.s_val (Z.pv_move rfl) ?_
                  refine Z.s_val (Z.pv_move rfl) ?_
                  refine Z.s_val (Z.pv_lookupOkZ (k := (kAt (tabH m0 (hN m0 c3 ds n1)) i)) (venc := Value.int .i64) (m := (hN m0 c3 ds n1)) 0 rfl rfl Try.underlying30 kU64 Try.zeroValue3 (by repeat (first | with_reducible exact Z.Take.here | apply Z.Take.there))) ?_
                  refine Z.s_val (Z.pv_move rfl) ?_
                  refine Z.s_val (Z.pv_extract rfl rfl) ?_
                  refine Z.s_val (Z.pv_extract rfl rfl) ?_
                  refine Z.s_val (Z.pv_assign rfl) ?_
                  refine Z.s_val (Z.pv_assign rfl) ?_
                  refine Z.j_nil ?_
                  refine Z.j_then ?_
                  refine Z.j_seq ?_
                  refine Z.j_region ?_
                  refine Z.s_val (Z.pv_move rfl) ?_
                  refine Z.s_val (Z.pv_not rfl) ?_
                  refine Z.s_val (Z.pv_move rfl) ?_
                  refine Z.s_is 119 rfl (show _ = Value.bool false from (by rw [hms]; rfl)) ?_
                  refine Z.s_val (Z.pv_move rfl) ?_
                  refine Z.s_val (Z.pv_move rfl) ?_
                  refine Z.s_val (Z.pv_move rfl) ?_
                  refine Z.s_val (Z.pv_indexAddr (o' := i) (b := nby) (o := 0) (len := (pairs (tabH m0 (hN m0 c3 ds n1))).length) (cap := capy) (by show some vy = _; rw [e1y]) (by rfl) Try.underlying44 Try.sizeOf3 (by omega) (by simp)) ?_
                  refine Z.s_val (Z.pv_load1 (v := .int .i64 (pAt (tabH m0 (hN m0 c3 ds n1)) i).2) (by rfl) (by repeat (first | with_reducible exact Z.Take.here | apply Z.Take.there)) Try.isAgg3 (ps_get (by omega) _)) ?_
                  refine Z.s_val (Z.pv_neq rfl rfl) ?_
                  refine Z.s_val (Z.pv_pick rfl rfl) ?_
                  refine Z.s_val (Z.pv_move rfl) ?_
                  refine Z.s_is 127 rfl (show _ = Value.bool false from (by rw [hmv, decide_eq_true rfl]; rfl)) ?_
                  refine Z.s_val (Z.pv_move rfl) ?_
                  refine Z.s_val (Z.pv_gtr rfl rfl) ?_
                  refine Z.s_val (Z.pv_move rfl) ?_
                  refine Z.s_split 130 rfl (fun hg130 => ?_) (fun hg130 => ?_)
                  · try (with_reducible first | replace hg130 := of_decide_eq_true hg130 | replace hg130 := of_decide_eq_false hg130 | replace hg130 := Z.nd_true hg130 | replace hg130 := Z.nd_false hg130 | replace hg130 := Z.nn_true hg130 | replace hg130 := Z.nn_false hg130 | replace hg130 := Z.nb_true hg130 | replace hg130 := Z.nb_false hg130)
                    first
                    | (exfalso; first | (cases hg130; done) | omega)
                    | skip
                      refine Z.s_val (Z.pv_move rfl) ?_
                      refine Z.s_val (Z.pv_move rfl) ?_
                      refine Z.s_val (Z.pv_sub rfl rfl (by first | exact IntWalk.i64_in _ (by omega) | rfl)) ?_
                      refine Z.s_val (Z.pv_indexAddr (o' := i - 1) (b := nbx) (o := 0) (len := (pairs (tabH m0 (hN m0 c3 ds n1))).length) (cap := capx) (by show some vx = _; rw [e1x]) (by rfl) Try.underlying42 Try.sizeOf31 (by omega) (by omega)) ?_
                      refine Z.s_val (Z.pv_load1 (v := .int .u64 (kAt (tabH m0 (hN m0 c3 ds n1)) (i - 1))) (by rfl) (by repeat (first | with_reducible exact Z.Take.here | apply Z.Take.there)) Try.isAgg31 (ks_get (by omega) _)) ?_
                      refine Z.s_val (Z.pv_move rfl) ?_
                      refine Z.s_val (Z.pv_geq rfl rfl) ?_
                      refine Z.s_val (Z.pv_pick rfl rfl) ?_
                      refine Z.s_val (Z.pv_pick rfl rfl) ?_
                      refine Z.j_nil ?_
                      refine Z.j_then ?_
                      refine Z.j_cond rfl (fun hc139 => ?_) (fun hc139 => ?_)
                      · try (with_reducible first | replace hc139 := of_decide_eq_true hc139 | replace hc139 := of_decide_eq_false hc139 | replace hc139 := Z.nd_true hc139 | replace hc139 := Z.nd_false hc139 | replace hc139 := Z.nn_true hc139 | replace hc139 := Z.nn_false hc139 | replace hc139 := Z.nb_true hc139 | replace hc139 := Z.nb_false hc139)
                        exfalso
                        first
                        | (cases hc139; done)
                        | (simp at hc139; done)
                        | (have := hkl (by omega); first | omega | (simp at hc139; omega))
                      · try (with_reducible first | replace hc139 := of_decide_eq_true hc139 | replace hc139 := of_decide_eq_false hc139 | replace hc139 := Z.nd_true hc139 | replace hc139 := Z.nd_false hc139 | replace hc139 := Z.nn_true hc139 | replace hc139 := Z.nn_false hc139 | replace hc139 := Z.nb_true hc139 | replace hc139 := Z.nb_false hc139)
                        first
                        | (exfalso; first | (cases hc139; done) | omega)
                        | skip
                          refine Z.j_skip ?_
                          refine Z.j_blk ?_
                          refine Z.j_then ?_
                          refine Z.j_region ?_
                          refine Z.s_val (Z.pv_add rfl rfl (by first | exact IntWalk.i64_in _ (by omega) | rfl)) ?_
                          refine Z.s_val (Z.pv_move rfl) ?_
                          refine Z.j_nil ?_
                          refine Z.j_then ?_
                          refine Z.j_own (T := 31) (k := 1) (m := (pairs (tabH m0 (hN m0 c3 ds n1))).length) (cap := capx) (c := u64s ((pairs (tabH m0 (hN m0 c3 ds n1))).map (·.1))) (sp := spx) (by repeat (first | with_reducible exact Z.Take.here | apply Z.Take.there)) e2x e3x ?_
                          refine Z.j_own (T := 3) (k := 1) (m := (pairs (tabH m0 (hN m0 c3 ds n1))).length) (cap := capy) (c := i64s ((pairs (tabH m0 (hN m0 c3 ds n1))).map (·.2))) (sp := spy) (by repeat (first | with_reducible exact Z.Take.here | apply Z.Take.there)) e2y e3y ?_
                          rw [← e1x, ← e1y]
                          (refine Z.j_nextG (X := { x : (Nat) // (x) ≤ (pairs (tabH m0 (hN m0 c3 ds n1))).length }) (EE := (fun (x : { x : (Nat) // (x) ≤ (pairs (tabH m0 (hN m0 c3 ds n1))).length }) => [(7, .pointer (some ⟨tb, 0, none⟩)), (9, .map (some hb)), (17, vx), (18, vy), (104, vx), (105, .int .i64 (pairs (tabH m0 (hN m0 c3 ds n1))).length), (106, .int .i64 ((x.1) : Nat))])) (LL := (fun (x : { x : (Nat) // (x) ≤ (pairs (tabH m0 (hN m0 c3 ds n1))).length }) => [TabP tb (tabH m0 (hN m0 c3 ds n1)), Z.MapP hb (Value.int .u64) (Value.int .i64) (hN m0 c3 ds n1), Z.Own 31 1 vx (pairs (tabH m0 (hN m0 c3 ds n1))).length (u64s ((pairs (tabH m0 (hN m0 c3 ds n1))).map (·.1))), Z.Own 3 1 vy (pairs (tabH m0 (hN m0 c3 ds n1))).length (i64s ((pairs (tabH m0 (hN m0 c3 ds n1))).map (·.2)))])) (μ := (fun (x : { x : (Nat) // (x) ≤ (pairs (tabH m0 (hN m0 c3 ds n1))).length }) => (pairs (tabH m0 (hN m0 c3 ds n1))).length - (x.1))) (x := ⟨(i), hinv⟩) ⟨(i + 1), by omega⟩ ?_ ?_ ?_; (show (pairs (tabH m0 (hN m0 c3 ds n1))).length - (i + 1) < (pairs (tabH m0 (hN m0 c3 ds n1))).length - i; omega); (exact (by repeat (first | exact trivial | refine ⟨rfl, ?_⟩))); (exact Z.st_td (by repeat (first | with_reducible exact Z.Takes.nil | (apply Z.Takes.cons; (repeat (first | with_reducible exact Z.Take.here | apply Z.Take.there))))) (by repeat (first | with_reducible exact Z.Drop.nil | apply Z.Drop.cons))))
                  · try (with_reducible first | replace hg130 := of_decide_eq_true hg130 | replace hg130 := of_decide_eq_false hg130 | replace hg130 := Z.nd_true hg130 | replace hg130 := Z.nd_false hg130 | replace hg130 := Z.nn_true hg130 | replace hg130 := Z.nn_false hg130 | replace hg130 := Z.nb_true hg130 | replace hg130 := Z.nb_false hg130)
                    first
                    | (exfalso; first | (cases hg130; done) | omega)
                    | skip
                      refine Z.s_skip ?_
                      refine Z.s_skip ?_
                      refine Z.s_skip ?_
                      refine Z.s_skip ?_
                      refine Z.s_skip ?_
                      refine Z.s_skip ?_
                      refine Z.s_skip ?_
                      refine Z.s_val (Z.pv_pick rfl rfl) ?_
                      refine Z.s_val (Z.pv_pick rfl rfl) ?_
                      refine Z.j_nil ?_
                      refine Z.j_then ?_
                      refine Z.j_cond rfl (fun hc139 => ?_) (fun hc139 => ?_)
                      · try (with_reducible first | replace hc139 := of_decide_eq_true hc139 | replace hc139 := of_decide_eq_false hc139 | replace hc139 := Z.nd_true hc139 | replace hc139 := Z.nd_false hc139 | replace hc139 := Z.nn_true hc139 | replace hc139 := Z.nn_false hc139 | replace hc139 := Z.nb_true hc139 | replace hc139 := Z.nb_false hc139)
                        exfalso
                        first
                        | (cases hc139; done)
                        | (simp at hc139; done)
                        | (have := hkl (by omega); first | omega | (simp at hc139; omega))
                      · try (with_reducible first | replace hc139 := of_decide_eq_true hc139 | replace hc139 := of_decide_eq_false hc139 | replace hc139 := Z.nd_true hc139 | replace hc139 := Z.nd_false hc139 | replace hc139 := Z.nn_true hc139 | replace hc139 := Z.nn_false hc139 | replace hc139 := Z.nb_true hc139 | replace hc139 := Z.nb_false hc139)
                        first
                        | (exfalso; first | (cases hc139; done) | omega)
                        | skip
                          refine Z.j_skip ?_
                          refine Z.j_blk ?_
                          refine Z.j_then ?_
                          refine Z.j_region ?_
                          refine Z.s_val (Z.pv_add rfl rfl (by first | exact IntWalk.i64_in _ (by omega) | rfl)) ?_
                          refine Z.s_val (Z.pv_move rfl) ?_
                          refine Z.j_nil ?_
                          refine Z.j_then ?_
                          refine Z.j_own (T := 31) (k := 1) (m := (pairs (tabH m0 (hN m0 c3 ds n1))).length) (cap := capx) (c := u64s ((pairs (tabH m0 (hN m0 c3 ds n1))).map (·.1))) (sp := spx) (by repeat (first | with_reducible exact Z.Take.here | apply Z.Take.there)) e2x e3x ?_
                          refine Z.j_own (T := 3) (k := 1) (m := (pairs (tabH m0 (hN m0 c3 ds n1))).length) (cap := capy) (c := i64s ((pairs (tabH m0 (hN m0 c3 ds n1))).map (·.2))) (sp := spy) (by repeat (first | with_reducible exact Z.Take.here | apply Z.Take.there)) e2y e3y ?_
                          rw [← e1x, ← e1y]
                          (refine Z.j_nextG (X := { x : (Nat) // (x) ≤ (pairs (tabH m0 (hN m0 c3 ds n1))).length }) (EE := (fun (x : { x : (Nat) // (x) ≤ (pairs (tabH m0 (hN m0 c3 ds n1))).length }) => [(7, .pointer (some ⟨tb, 0, none⟩)), (9, .map (some hb)), (17, vx), (18, vy), (104, vx), (105, .int .i64 (pairs (tabH m0 (hN m0 c3 ds n1))).length), (106, .int .i64 ((x.1) : Nat))])) (LL := (fun (x : { x : (Nat) // (x) ≤ (pairs (tabH m0 (hN m0 c3 ds n1))).length }) => [TabP tb (tabH m0 (hN m0 c3 ds n1)), Z.MapP hb (Value.int .u64) (Value.int .i64) (hN m0 c3 ds n1), Z.Own 31 1 vx (pairs (tabH m0 (hN m0 c3 ds n1))).length (u64s ((pairs (tabH m0 (hN m0 c3 ds n1))).map (·.1))), Z.Own 3 1 vy (pairs (tabH m0 (hN m0 c3 ds n1))).length (i64s ((pairs (tabH m0 (hN m0 c3 ds n1))).map (·.2)))])) (μ := (fun (x : { x : (Nat) // (x) ≤ (pairs (tabH m0 (hN m0 c3 ds n1))).length }) => (pairs (tabH m0 (hN m0 c3 ds n1))).length - (x.1))) (x := ⟨(i), hinv⟩) ⟨(i + 1), by omega⟩ ?_ ?_ ?_; (show (pairs (tabH m0 (hN m0 c3 ds n1))).length - (i + 1) < (pairs (tabH m0 (hN m0 c3 ds n1))).length - i; omega); (exact (by repeat (first | exact trivial | refine ⟨rfl, ?_⟩))); (exact Z.st_td (by repeat (first | with_reducible exact Z.Takes.nil | (apply Z.Takes.cons; (repeat (first | with_reducible exact Z.Take.here | apply Z.Take.there))))) (by repeat (first | with_reducible exact Z.Drop.nil | apply Z.Drop.cons))))
              · try (with_reducible first | replace hc107 := of_decide_eq_true hc107 | replace hc107 := of_decide_eq_false hc107 | replace hc107 := Z.nd_true hc107 | replace hc107 := Z.nd_false hc107 | replace hc107 := Z.nn_true hc107 | replace hc107 := Z.nn_false hc107 | replace hc107 := Z.nb_true hc107 | replace hc107 := Z.nb_false hc107)
                first
                | (exfalso; first | (cases hc107; done) | omega)
                | skip
                  refine Z.j_exit ?_
                  refine Z.j_then_exit ?_
                  refine Z.j_then_exit ?_
                  refine Z.j_blk_here rfl ?_
                  refine Z.j_then ?_
                  refine Z.j_seq ?_
                  refine Z.j_region ?_
                  refine Z.s_val (Z.pv_move rfl) ?_
                  refine Z.s_val (Z.pv_lenO rfl (by repeat (first | with_reducible exact Z.Take.here | apply Z.Take.there)) Try.underlying42) ?_
                  refine Z.s_val (Z.pv_move rfl) ?_
                  refine Z.s_val (Z.pv_lenM rfl Try.underlying30 (by repeat (first | with_reducible exact Z.Take.here | apply Z.Take.there))) ?_
                  refine Z.s_val (Z.pv_eql rfl rfl) ?_
                  refine Z.s_val (Z.pv_move rfl) ?_
                  refine Z.s_is 146 rfl (show _ = Value.bool true from (by rw [decide_eq_true (by omega)])) ?_
                  refine Z.s_val (Z.pv_move rfl) ?_
                  refine Z.s_callD rfl rfl rfl isFn13 (by repeat (first | with_reducible exact Z.Takes.nil | (apply Z.Takes.cons; (repeat (first | with_reducible exact Z.Take.here | apply Z.Take.there))))) (by repeat (first | exact Z.App.nil | apply Z.App.cons)) (len_spec _ _ (tabH m0 (hN m0 c3 ds n1))) ?_
                  refine Z.s_val (Z.pv_move rfl) ?_
                  refine Z.s_val (Z.pv_lenM rfl Try.underlying30 (by repeat (first | with_reducible exact Z.Take.here | apply Z.Take.there))) ?_
                  refine Z.s_val (Z.pv_eql rfl rfl) ?_
                  refine Z.s_val (Z.pv_pick rfl rfl) ?_
                  refine Z.s_val (Z.pv_assign rfl) ?_
                  refine Z.j_nil ?_
                  refine Z.j_then ?_
                  refine Z.j_ret ?_
                  refine Z.j_done_ret (Z.rv1 (Z.rv_tmp (t := 6) rfl)) ?_
                  exact Z.post_of ⟨by first | rfl | (congr 1; exact decide_eq_true (by omega)), rfl⟩ (by repeat (first | with_reducible exact Z.Takes.nil | (apply Z.Takes.cons; (repeat (first | with_reducible exact Z.Take.here | apply Z.Take.there))))) (by repeat (first | with_reducible exact Z.Drop.nil | apply Z.Drop.cons))

end Go.Proofs.Ytjilnmjjehkidaa
