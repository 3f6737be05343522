/- Token: TokenEnds. -/
import Derived.Test.YtjilnmjjehkidaaS5
import Derived.Test.YtjilnmjjehkidaaT5
import Derived.KernelRfl
namespace Go.Proofs.Ytjilnmjjehkidaa
open Go Go.RowKit
set_option maxHeartbeats 4000000 in
set_option maxRecDepth 100000 in
theorem ends_law (w0 : World) (most idle abs : Int) (p1 : Option Addr) (n1 cap1 : Nat) (os : List OpT) (hos : os.length = n1) (hp1 : 0 < n1 → ∃ b o, p1 = some ⟨b, o, none⟩ ∧ Z.Ro w0 b o (os.flatMap OpT.c)) : Z.FnD Try.prog w0 3 [.int .i64 most, .int .i64 idle, .int .i64 abs, .slice p1 n1 cap1] [] (.bool true) [] := by
  refine Z.Fn.fnD ?_
  refine Z.fn_enter (n := 146) Try.func3 rfl (by rfl) (by rfl) (fun Fr => ?_)
  refine Z.j_app (by repeat (first | exact Z.App.nil | apply Z.App.cons)) ?_
  refine Z.j_seq ?_
  refine Z.j_region ?_
  refine Z.s_val (Z.pv_assign rfl) ?_
  refine Z.j_nil ?_
  refine Z.j_then ?_
  refine Z.j_seq ?_
  refine Z.j_seq ?_
  refine Z.j_region ?_
  refine Z.s_callD rfl rfl rfl isFn7 (by repeat (first | with_reducible exact Z.Takes.nil | (apply Z.Takes.cons; (repeat (first | with_reducible exact Z.Take.here | apply Z.Take.there))))) (by repeat (first | exact Z.App.nil | apply Z.App.cons)) (alive_spec _) ?_
  refine Z.s_val (Z.pv_not rfl) ?_
  refine Z.j_nil ?_
  refine Z.j_then ?_
  refine Z.j_cond rfl (fun hc22 => ?_) (fun hc22 => ?_)
  · exfalso; first | (cases hc22; done) | (simp at hc22; done) | (simp at hc22; omega)
  · try (with_reducible first | replace hc22 := of_decide_eq_true hc22 | replace hc22 := of_decide_eq_false hc22 | replace hc22 := Z.nd_true hc22 | replace hc22 := Z.nd_false hc22 | replace hc22 := Z.nn_true hc22 | replace hc22 := Z.nn_false hc22 | replace hc22 := Z.nb_true hc22 | replace hc22 := Z.nb_false hc22)
    first
    | (exfalso; first | (cases hc22; done) | omega)
    | skip
      refine Z.j_skip ?_
      refine Z.j_then ?_
      refine Z.j_seq ?_
      refine Z.j_seq ?_
      refine Z.j_region ?_
      refine Z.s_val (Z.pv_move rfl) ?_
      refine Z.s_val (Z.pv_len rfl Try.underlying22) ?_
      refine Z.s_val (Z.pv_gtr rfl rfl) ?_
      refine Z.s_val (Z.pv_move rfl) ?_
      refine Z.s_split 26 rfl (fun hg26 => ?_) (fun hg26 => ?_)
      · try (with_reducible first | replace hg26 := of_decide_eq_true hg26 | replace hg26 := of_decide_eq_false hg26 | replace hg26 := Z.nd_true hg26 | replace hg26 := Z.nd_false hg26 | replace hg26 := Z.nn_true hg26 | replace hg26 := Z.nn_false hg26 | replace hg26 := Z.nb_true hg26 | replace hg26 := Z.nb_false hg26)
        first
        | (exfalso; first | (cases hg26; done) | omega)
        | skip
          refine Z.s_skip ?_
          refine Z.s_skip ?_
          refine Z.s_skip ?_
          refine Z.s_skip ?_
          refine Z.s_skip ?_
          refine Z.s_val (Z.pv_pick rfl rfl) ?_
          refine Z.j_nil ?_
          refine Z.j_then ?_
          refine Z.j_cond rfl (fun hc32 => ?_) (fun hc32 => ?_)
          · try (with_reducible first | replace hc32 := of_decide_eq_true hc32 | replace hc32 := of_decide_eq_false hc32 | replace hc32 := Z.nd_true hc32 | replace hc32 := Z.nd_false hc32 | replace hc32 := Z.nn_true hc32 | replace hc32 := Z.nn_false hc32 | replace hc32 := Z.nb_true hc32 | replace hc32 := Z.nb_false hc32)
            first
            | (exfalso; first | (cases hc32; done) | omega)
            | skip
              refine Z.j_seq ?_
              refine Z.j_region ?_
              refine Z.s_val (Z.pv_assign rfl) ?_
              refine Z.j_nil ?_
              refine Z.j_then ?_
              refine Z.j_ret ?_
              refine Z.j_then_ret ?_
              refine Z.j_done_ret (Z.rv1 (Z.rv_tmp (t := 8) rfl)) ?_
              exact Z.post_of ⟨by first | rfl | (congr 1; exact decide_eq_true (by omega)), rfl⟩ (by repeat (first | with_reducible exact Z.Takes.nil | (apply Z.Takes.cons; (repeat (first | with_reducible exact Z.Take.here | apply Z.Take.there))))) (by repeat (first | with_reducible exact Z.Drop.nil | apply Z.Drop.cons))
          · try (with_reducible first | replace hc32 := of_decide_eq_true hc32 | replace hc32 := of_decide_eq_false hc32 | replace hc32 := Z.nd_true hc32 | replace hc32 := Z.nd_false hc32 | replace hc32 := Z.nn_true hc32 | replace hc32 := Z.nn_false hc32 | replace hc32 := Z.nb_true hc32 | replace hc32 := Z.nb_false hc32)
            first
            | (exfalso; first | (cases hc32; done) | omega)
            | skip
              obtain ⟨hm, hi2, ha, hsi, hsa⟩ := right_facts hc32
              refine Z.j_skip ?_
              refine Z.j_then ?_
              refine Z.j_seq ?_
              refine Z.j_region ?_
              refine Z.s_val (Z.pv_move rfl) ?_
              refine Z.s_val (Z.pv_move rfl) ?_
              refine Z.s_val (Z.pv_move rfl) ?_
              refine Z.s_call rfl rfl rfl isFn9 (by repeat (first | with_reducible exact Z.Takes.nil | (apply Z.Takes.cons; (repeat (first | with_reducible exact Z.Take.here | apply Z.Take.there))))) (new_spec _ _ _ _ (by omega) (by omega) hsi hsa) ?_
              rintro _ _ ⟨tb, rfl, rfl⟩
              refine Z.j_app (by repeat (first | exact Z.App.nil | apply Z.App.cons)) ?_
              refine Z.s_val (Z.pv_move rfl) ?_
              refine Z.s_val (Z.pv_extract rfl rfl) ?_
              refine Z.s_val (Z.pv_extract rfl rfl) ?_
              refine Z.s_val (Z.pv_assign rfl) ?_
              refine Z.s_val (Z.pv_assign rfl) ?_
              refine Z.j_nil ?_
              refine Z.j_then ?_
              refine Z.j_seq ?_
              refine Z.j_region ?_
              refine Z.s_makeMap (Value.int .u64) (Value.int .i64) (fun bb => ?_)
              refine Z.s_val (Z.pv_assign rfl) ?_
              refine Z.j_nil ?_
              refine Z.j_then ?_
              refine Z.j_seq ?_
              refine Z.j_region ?_
              refine Z.s_makeMap (Value.int .u64) (Value.int .i64) (fun pb => ?_)
              refine Z.s_val (Z.pv_assign rfl) ?_
              refine Z.j_nil ?_
              refine Z.j_then ?_
              refine Z.j_seq ?_
              refine Z.j_region ?_
              refine Z.s_val (Z.pv_assign rfl) ?_
              refine Z.j_nil ?_
              refine Z.j_then ?_
              refine Z.j_seq ?_
              refine Z.j_seq ?_
              refine Z.j_region ?_
              refine Z.s_val (Z.pv_move rfl) ?_
              refine Z.s_val (Z.pv_len rfl Try.underlying22) ?_
              refine Z.s_val (Z.pv_move rfl) ?_
              refine Z.j_nil ?_
              refine Z.j_then ?_
              refine Z.j_block ?_
              refine Z.j_cast (A := TabP tb ⟨[], most, idle, abs⟩) (B := TabP tb (es os most idle abs 0).t) (by repeat (first | with_reducible exact Z.Take.here | apply Z.Take.there)) rfl ?_
              refine Z.j_cast (A := Z.MapP bb (Value.int .u64) (Value.int .i64) []) (B := Z.MapP bb (Value.int .u64) (Value.int .i64) (es os most idle abs 0).bm) (by repeat (first | with_reducible exact Z.Take.here | apply Z.Take.there)) rfl ?_
              refine Z.j_cast (A := Z.MapP pb (Value.int .u64) (Value.int .i64) []) (B := Z.MapP pb (Value.int .u64) (Value.int .i64) (es os most idle abs 0).pm) (by repeat (first | with_reducible exact Z.Take.here | apply Z.Take.there)) rfl ?_
              refine Z.j_initF (E' := [(0, .int .i64 most), (1, .int .i64 idle), (2, .int .i64 abs), (3, .slice p1 n1 cap1), (9, .pointer (some ⟨tb, 0, none⟩)), (11, .map (some bb)), (12, .map (some pb)), (13, .int .i64 (es os most idle abs (0)).now), (42, .slice p1 n1 cap1), (43, .int .i64 n1), (44, .int .i64 ((0) : Nat))]) (As := [TabP tb (es os most idle abs (0)).t, Z.MapP bb (Value.int .u64) (Value.int .i64) (es os most idle abs (0)).bm, Z.MapP pb (Value.int .u64) (Value.int .i64) (es os most idle abs (0)).pm]) (Fr := Fr) (by repeat (first | exact trivial | refine ⟨rfl, ?_⟩)) (by repeat (first | with_reducible exact Z.Takes.nil | (apply Z.Takes.cons; (repeat (first | with_reducible exact Z.Take.here | apply Z.Take.there))))) (by repeat (first | with_reducible exact Z.Drop.nil | apply Z.Drop.cons)) ?_
              refine Z.j_loop (X := { x : (Nat) // (x) ≤ n1 }) (fun (x : { x : (Nat) // (x) ≤ n1 }) => [(0, .int .i64 most), (1, .int .i64 idle), (2, .int .i64 abs), (3, .slice p1 n1 cap1), (9, .pointer (some ⟨tb, 0, none⟩)), (11, .map (some bb)), (12, .map (some pb)), (13, .int .i64 (es os most idle abs (x.1)).now), (42, .slice p1 n1 cap1), (43, .int .i64 n1), (44, .int .i64 ((x.1) : Nat))]) (fun x => (fun (x : { x : (Nat) // (x) ≤ n1 }) => [TabP tb (es os most idle abs (x.1)).t, Z.MapP bb (Value.int .u64) (Value.int .i64) (es os most idle abs (x.1)).bm, Z.MapP pb (Value.int .u64) (Value.int .i64) (es os most idle abs (x.1)).pm]) x ++ Fr) (fun (x : { x : (Nat) // (x) ≤ n1 }) => n1 - (x.1)) ⟨(0), by omega⟩ (fun x => ?_)
              obtain ⟨i, hinv⟩ := x
              have hinv' : i ≤ n1 := hinv
              have hi := hinv'
              show Z.J _ _ _ ([(0, .int .i64 most), (1, .int .i64 idle), (2, .int .i64 abs), (3, .slice p1 n1 cap1), (9, .pointer (some ⟨tb, 0, none⟩)), (11, .map (some bb)), (12, .map (some pb)), (13, .int .i64 (es os most idle abs i).now), (42, .slice p1 n1 cap1), (43, .int .i64 n1), (44, .int .i64 (i : Nat))]) ([TabP tb (es os most idle abs i).t, Z.MapP bb (Value.int .u64) (Value.int .i64) (es os most idle abs i).bm, Z.MapP pb (Value.int .u64) (Value.int .i64) (es os most idle abs i).pm] ++ Fr) _
              refine Z.j_app (by repeat (first | exact Z.App.nil | apply Z.App.cons)) ?_
              refine Z.j_seq ?_
              refine Z.j_region ?_
              refine Z.s_val (Z.pv_lss rfl rfl) ?_
              refine Z.j_nil ?_
              refine Z.j_then ?_
              refine Z.j_seq ?_
              refine Z.j_cond rfl (fun hc45 => ?_) (fun hc45 => ?_)
              · try (with_reducible first | replace hc45 := of_decide_eq_true hc45 | replace hc45 := of_decide_eq_false hc45 | replace hc45 := Z.nd_true hc45 | replace hc45 := Z.nd_false hc45 | replace hc45 := Z.nn_true hc45 | replace hc45 := Z.nn_false hc45 | replace hc45 := Z.nb_true hc45 | replace hc45 := Z.nb_false hc45)
                first
                | (exfalso; first | (cases hc45; done) | omega)
                | skip
                  obtain ⟨b1, o1, ep, hro1⟩ := hp1 (by omega)
                  obtain ⟨s, hs⟩ : ∃ s, (es os most idle abs i) = s := ⟨_, rfl⟩
                  have hEI := es_EI os (most := most) (idle := idle) (abs := abs) (by omega) i
                  have hEI2 := es_EI os (most := most) (idle := idle) (abs := abs) (by omega) (i + 1)
                  rw [hs] at hEI ⊢
                  obtain ⟨o, ho⟩ : ∃ o, os.getD i OpT.z = o := ⟨_, rfl⟩
                  have hstep : (es os most idle abs (i + 1)) = stepE s o := by rw [← hs, ← ho]; rfl
                  have hmb := and_bd o.n 255 (by decide) (by decide)
                  have e0 := hEI.now0
                  have e1 := hEI.now1
                  have hok := hEI.ok (by omega)
                  have hbv := hEI.bval (q := o.t)
                  refine Z.j_skip ?_
                  refine Z.j_then ?_
                  refine Z.j_seq ?_
                  refine Z.j_block ?_
                  refine Z.j_seq ?_
                  refine Z.j_region ?_
                  refine Z.s_val (Z.pv_indexAddr (o' := o1 + i * 4) (b := b1) (o := o1) (len := n1) (cap := cap1) (by show some (Value.slice p1 n1 cap1) = _; rw [ep]) rfl Try.underlying22 Try.sizeOf33 (by omega) (by simp)) ?_
                  refine Z.s_val (Z.pv_is (Z.pv_loadAr (r := (os.getD i OpT.z).c) (b := b1) (o := o1) (j := i * 4) rfl hro1 rfl Try.isAgg33 Try.sizeOf33 (slc_op (by omega))) (show _ = Value.agg #[.int .i64 o.k, .int .i64 o.p, .int .u64 o.t, .int .i64 o.n] from by rw [ho]; rfl)) ?_
                  refine Z.s_alloc Try.zeroValue33 (fun b15 => ?_)
                  refine Z.s_storeA rfl rfl Try.sizeOf33 rfl (by repeat (first | with_reducible exact Z.Upd.here | apply Z.Upd.there)) (by rfl) ?_
                  refine Z.j_nil ?_
                  refine Z.j_then ?_
                  refine Z.j_seq ?_
                  refine Z.j_region ?_
                  refine Z.s_val (Z.pv_move rfl) ?_
                  refine Z.s_val (Z.pv_fieldAddr (o' := 3) rfl Try.underlying33 rfl Try.sizeOf2 rfl) ?_
                  refine Z.s_val (Z.pv_load1 rfl (by repeat (first | with_reducible exact Z.Take.here | apply Z.Take.there)) Try.isAgg2 (by rfl)) ?_
                  refine Z.s_val (Z.pv_bits rfl rfl rfl) ?_
                  refine Z.s_val (Z.pv_add rfl rfl (by first | exact IntWalk.i64_in _ (by omega) | rfl)) ?_
                  refine Z.s_val (Z.pv_assign rfl) ?_
                  obtain ⟨N, hN⟩ : ∃ N, s.now + msk o.n 255 = N := ⟨_, rfl⟩
                  have hN' : s.now + Z.bitsOf .and .i64 o.n 255 = N := hN
                  refine Z.s_is 13 rfl (show _ = Value.int .i64 N from by rw [← hN]; rfl) ?_
                  have hU : s.t.useE o.t N = 0 → _ := hEI.use (q := o.t) (N := N) (by omega) (by omega)
                  refine Z.j_nil ?_
                  refine Z.j_then ?_
                  refine Z.j_seq ?_
                  refine Z.j_seq ?_
                  refine Z.j_region ?_
                  refine Z.s_val (Z.pv_fieldAddr (o' := 0) rfl Try.underlying33 rfl Try.sizeOf3 rfl) ?_
                  refine Z.s_val (Z.pv_load1 rfl (by repeat (first | with_reducible exact Z.Take.here | apply Z.Take.there)) Try.isAgg3 (by rfl)) ?_
                  refine Z.j_nil ?_
                  refine Z.j_then ?_
                  refine Z.j_block ?_
                  refine Z.j_seq ?_
                  refine Z.j_seq ?_
                  refine Z.j_region ?_
                  refine Z.s_val (Z.pv_eql rfl rfl) ?_
                  refine Z.s_val (Z.pv_assign rfl) ?_
                  refine Z.j_nil ?_
                  refine Z.j_then ?_
                  refine Z.j_cond rfl (fun hc96 => ?_) (fun hc96 => ?_)
                  · try (with_reducible first | replace hc96 := of_decide_eq_true hc96 | replace hc96 := of_decide_eq_false hc96 | replace hc96 := Z.nd_true hc96 | replace hc96 := Z.nd_false hc96 | replace hc96 := Z.nn_true hc96 | replace hc96 := Z.nn_false hc96 | replace hc96 := Z.nb_true hc96 | replace hc96 := Z.nb_false hc96)
                    first
                    | (exfalso; first | (cases hc96; done) | omega)
                    | skip
                      refine Z.j_skip ?_
                      refine Z.j_then ?_
                      refine Z.j_cond rfl (fun hc96 => ?_) (fun hc96 => ?_)
                      · try (with_reducible first | replace hc96 := of_decide_eq_true hc96 | replace hc96 := of_decide_eq_false hc96 | replace hc96 := Z.nd_true hc96 | replace hc96 := Z.nd_false hc96 | replace hc96 := Z.nn_true hc96 | replace hc96 := Z.nn_false hc96 | replace hc96 := Z.nb_true hc96 | replace hc96 := Z.nb_false hc96)
                        first
                        | (exfalso; first | (cases hc96; done) | omega)
                        | skip
                          refine Z.j_seq ?_
                          refine Z.j_region ?_
                          refine Z.s_val (Z.pv_move rfl) ?_
                          refine Z.s_val (Z.pv_fieldAddr (o' := 1) rfl Try.underlying33 rfl Try.sizeOf3 rfl) ?_
                          refine Z.s_val (Z.pv_load1 rfl (by repeat (first | with_reducible exact Z.Take.here | apply Z.Take.there)) Try.isAgg3 (by rfl)) ?_
                          refine Z.s_val (Z.pv_fieldAddr (o' := 2) rfl Try.underlying33 rfl Try.sizeOf31 rfl) ?_
                          refine Z.s_val (Z.pv_load1 rfl (by repeat (first | with_reducible exact Z.Take.here | apply Z.Take.there)) Try.isAgg31 (by rfl)) ?_
                          refine Z.s_val (Z.pv_move rfl) ?_
                          refine Z.s_callD rfl rfl rfl isFn10 (by repeat (first | with_reducible exact Z.Takes.nil | (apply Z.Takes.cons; (repeat (first | with_reducible exact Z.Take.here | apply Z.Take.there))))) (by repeat (first | exact Z.App.nil | apply Z.App.cons)) (open_spec _ tb s.t o.p o.t N hok) ?_
                          refine Z.s_val (Z.pv_eql rfl rfl) ?_
                          refine Z.j_nil ?_
                          refine Z.j_then ?_
                          refine Z.j_cond rfl (fun hc106 => ?_) (fun hc106 => ?_)
                          · try (with_reducible first | replace hc106 := of_decide_eq_true hc106 | replace hc106 := of_decide_eq_false hc106 | replace hc106 := Z.nd_true hc106 | replace hc106 := Z.nd_false hc106 | replace hc106 := Z.nn_true hc106 | replace hc106 := Z.nn_false hc106 | replace hc106 := Z.nb_true hc106 | replace hc106 := Z.nb_false hc106)
                            first
                            | (exfalso; first | (cases hc106; done) | omega)
                            | skip
                              refine Z.j_drawT [⟨none, none, [2, 5, 8], fun ρ => Z.cl b15 33 [.int .i64 o.k, .int .i64 o.p, .int .u64 o.t, .int .i64 o.n]⟩, ⟨none, (some 9), [], fun ρ => Z.MapP bb (Value.int .u64) (Value.int .i64) s.bm⟩, ⟨(some 9), none, [], fun ρ => Z.MapP bb (Value.int .u64) (Value.int .i64) (Z.mput o.t N s.bm)⟩, ⟨none, (some 10), [], fun ρ => Z.MapP pb (Value.int .u64) (Value.int .i64) s.pm⟩, ⟨(some 10), none, [], fun ρ => Z.MapP pb (Value.int .u64) (Value.int .i64) (Z.mput o.t o.p s.pm)⟩] [9, 10] (fun ρ => [.map (some bb), .pointer (some ⟨b15, 2, none⟩), .int .u64 o.t, .map (some pb), .pointer (some ⟨b15, 2, none⟩), .int .u64 o.t, .int .i64 N, .pointer (some ⟨b15, 1, none⟩), .int .i64 o.p, ρ 9, ρ 10]) (by kernel_rfl) (by kernel_rfl) (by rfl) (fun _ => rfl) ⟨fun _ => rfl, fun _ _ => rfl, fun _ _ => rfl, ⟨fun _ => rfl, fun _ _ => rfl, fun _ _ => rfl, trivial⟩⟩ (fun ρ => (by repeat (first | with_reducible exact Z.Takes.nil | (apply Z.Takes.cons; (repeat (first | with_reducible exact Z.Take.here | apply Z.Take.there))) | exact Z.Takes.nil))) ?_ (fun ρ => ?_)
                              · skip
                                refine Z.tops_cons ?_ ?_
                                · refine Z.top_q (fun ρ => .map (some bb)) rfl (fun _ => rfl) (fun ρ Rr => ?_)
                                  show Z.HQ _ _ _ _ _ _ (Rr) _ _
                                  exact (Z.hq_val (Z.pv_move rfl))
                                refine Z.tops_cons ?_ ?_
                                · refine Z.top_q (fun ρ => .pointer (some ⟨b15, 2, none⟩)) rfl (fun _ => rfl) (fun ρ Rr => ?_)
                                  show Z.HQ _ _ _ _ _ _ (Rr) _ _
                                  exact (Z.hq_val (Z.pv_fieldAddr (o' := 2) rfl Try.underlying33 rfl Try.sizeOf31 rfl))
                                refine Z.tops_cons ?_ ?_
                                · refine Z.top_q (fun ρ => .int .u64 o.t) rfl (fun _ => rfl) (fun ρ Rr => ?_)
                                  show Z.HQ _ _ _ _ _ _ (Z.cl b15 33 [.int .i64 o.k, .int .i64 o.p, .int .u64 o.t, .int .i64 o.n] :: Rr) _ _
                                  exact (Z.hq_val (Z.pv_load1 rfl (by repeat (first | with_reducible exact Z.Take.here | apply Z.Take.there)) Try.isAgg31 (by rfl)))
                                refine Z.tops_cons ?_ ?_
                                · refine Z.top_q (fun ρ => .map (some pb)) rfl (fun _ => rfl) (fun ρ Rr => ?_)
                                  show Z.HQ _ _ _ _ _ _ (Rr) _ _
                                  exact (Z.hq_val (Z.pv_move rfl))
                                refine Z.tops_cons ?_ ?_
                                · refine Z.top_q (fun ρ => .pointer (some ⟨b15, 2, none⟩)) rfl (fun _ => rfl) (fun ρ Rr => ?_)
                                  show Z.HQ _ _ _ _ _ _ (Rr) _ _
                                  exact (Z.hq_val (Z.pv_fieldAddr (o' := 2) rfl Try.underlying33 rfl Try.sizeOf31 rfl))
                                refine Z.tops_cons ?_ ?_
                                · refine Z.top_q (fun ρ => .int .u64 o.t) rfl (fun _ => rfl) (fun ρ Rr => ?_)
                                  show Z.HQ _ _ _ _ _ _ (Z.cl b15 33 [.int .i64 o.k, .int .i64 o.p, .int .u64 o.t, .int .i64 o.n] :: Rr) _ _
                                  exact (Z.hq_val (Z.pv_load1 rfl (by repeat (first | with_reducible exact Z.Take.here | apply Z.Take.there)) Try.isAgg31 (by rfl)))
                                refine Z.tops_cons ?_ ?_
                                · refine Z.top_q (fun ρ => .int .i64 N) rfl (fun _ => rfl) (fun ρ Rr => ?_)
                                  show Z.HQ _ _ _ _ _ _ (Rr) _ _
                                  exact (Z.hq_val (Z.pv_move rfl))
                                refine Z.tops_cons ?_ ?_
                                · refine Z.top_q (fun ρ => .pointer (some ⟨b15, 1, none⟩)) rfl (fun _ => rfl) (fun ρ Rr => ?_)
                                  show Z.HQ _ _ _ _ _ _ (Rr) _ _
                                  exact (Z.hq_val (Z.pv_fieldAddr (o' := 1) rfl Try.underlying33 rfl Try.sizeOf3 rfl))
                                refine Z.tops_cons ?_ ?_
                                · refine Z.top_q (fun ρ => .int .i64 o.p) rfl (fun _ => rfl) (fun ρ Rr => ?_)
                                  show Z.HQ _ _ _ _ _ _ (Z.cl b15 33 [.int .i64 o.k, .int .i64 o.p, .int .u64 o.t, .int .i64 o.n] :: Rr) _ _
                                  exact (Z.hq_val (Z.pv_load1 rfl (by repeat (first | with_reducible exact Z.Take.here | apply Z.Take.there)) Try.isAgg3 (by rfl)))
                                refine Z.tops_cons ?_ ?_
                                · refine Z.top_c rfl (fun ρ Rr => ?_)
                                  refine Z.hn_of0 rfl (by rfl) rfl ?_
                                  show Z.J _ _ _ _ ([Z.MapP bb (Value.int .u64) (Value.int .i64) s.bm] ++ Rr) _
                                  refine Z.j_app (by repeat (first | exact Z.App.nil | apply Z.App.cons)) ?_
                                  refine Z.s_mapUpdate (k := o.t) (v := N) rfl rfl rfl Try.underlying29 kU64 (by repeat (first | with_reducible exact Z.Take.here | apply Z.Take.there)) ?_
                                  refine Z.j_nil ?_
                                  refine Z.hn_end0 (fun _ => Z.st_td (by repeat (first | with_reducible exact Z.Takes.nil | (apply Z.Takes.cons; (repeat (first | exact Z.Take.here | apply Z.Take.there))) | exact Z.Takes.nil)) (by repeat (first | with_reducible exact Z.Drop.nil | apply Z.Drop.cons)))
                                refine Z.tops_cons ?_ ?_
                                · refine Z.top_c rfl (fun ρ Rr => ?_)
                                  refine Z.hn_of0 rfl (by rfl) rfl ?_
                                  show Z.J _ _ _ _ ([Z.MapP pb (Value.int .u64) (Value.int .i64) s.pm] ++ Rr) _
                                  refine Z.j_app (by repeat (first | exact Z.App.nil | apply Z.App.cons)) ?_
                                  refine Z.s_mapUpdate (k := o.t) (v := o.p) rfl rfl rfl Try.underlying30 kU64 (by repeat (first | with_reducible exact Z.Take.here | apply Z.Take.there)) ?_
                                  refine Z.j_nil ?_
                                  refine Z.hn_end0 (fun _ => Z.st_td (by repeat (first | with_reducible exact Z.Takes.nil | (apply Z.Takes.cons; (repeat (first | exact Z.Take.here | apply Z.Take.there))) | exact Z.Takes.nil)) (by repeat (first | with_reducible exact Z.Drop.nil | apply Z.Drop.cons)))
                                exact Z.tops_nil
                              · show Z.J _ _ _ _ ([Z.cl b15 33 [.int .i64 o.k, .int .i64 o.p, .int .u64 o.t, .int .i64 o.n], Z.MapP bb (Value.int .u64) (Value.int .i64) (Z.mput o.t N s.bm), Z.MapP pb (Value.int .u64) (Value.int .i64) (Z.mput o.t o.p s.pm)] ++ _) _
                                refine Z.j_app (by repeat (first | exact Z.App.nil | apply Z.App.cons)) ?_
                                refine Z.j_blk ?_
                                refine Z.j_then ?_
                                refine Z.j_seq ?_
                                first
                                | (have hst := step_a (s := s) (o := o) (by omega) (by rw [hN]; exact hc106)
                                   rw [hN] at hst
                                   refine Z.j_cast (A := TabP tb (s.t.openT o.p o.t N)) (B := TabP tb (es os most idle abs (i + 1)).t) (by repeat (first | with_reducible exact Z.Take.here | apply Z.Take.there)) (by rw [hstep, hst]) ?_
                                   refine Z.j_cast (A := Z.MapP bb (Value.int .u64) (Value.int .i64) (Z.mput o.t N s.bm)) (B := Z.MapP bb (Value.int .u64) (Value.int .i64) (es os most idle abs (i + 1)).bm) (by repeat (first | with_reducible exact Z.Take.here | apply Z.Take.there)) (by rw [hstep, hst]) ?_
                                   refine Z.j_cast (A := Z.MapP pb (Value.int .u64) (Value.int .i64) (Z.mput o.t o.p s.pm)) (B := Z.MapP pb (Value.int .u64) (Value.int .i64) (es os most idle abs (i + 1)).pm) (by repeat (first | with_reducible exact Z.Take.here | apply Z.Take.there)) (by rw [hstep, hst]) ?_)
                                | (have hst := step_b (s := s) (o := o) (by omega) (by rw [hN]; exact hc106)
                                   rw [hN] at hst
                                   refine Z.j_cast (A := TabP tb (s.t.openT o.p o.t N)) (B := TabP tb (es os most idle abs (i + 1)).t) (by repeat (first | with_reducible exact Z.Take.here | apply Z.Take.there)) (by rw [hstep, hst]) ?_
                                   refine Z.j_cast (A := Z.MapP bb (Value.int .u64) (Value.int .i64) s.bm) (B := Z.MapP bb (Value.int .u64) (Value.int .i64) (es os most idle abs (i + 1)).bm) (by repeat (first | with_reducible exact Z.Take.here | apply Z.Take.there)) (by rw [hstep, hst]) ?_
                                   refine Z.j_cast (A := Z.MapP pb (Value.int .u64) (Value.int .i64) s.pm) (B := Z.MapP pb (Value.int .u64) (Value.int .i64) (es os most idle abs (i + 1)).pm) (by repeat (first | with_reducible exact Z.Take.here | apply Z.Take.there)) (by rw [hstep, hst]) ?_)
                                | (have hst := step_c (s := s) (o := o) (by omega) hc116
                                   rw [hN] at hst
                                   refine Z.j_cast (A := TabP tb (s.t.close o.t)) (B := TabP tb (es os most idle abs (i + 1)).t) (by repeat (first | with_reducible exact Z.Take.here | apply Z.Take.there)) (by rw [hstep, hst]) ?_
                                   refine Z.j_cast (A := Z.MapP bb (Value.int .u64) (Value.int .i64) (Z.mdel o.t s.bm)) (B := Z.MapP bb (Value.int .u64) (Value.int .i64) (es os most idle abs (i + 1)).bm) (by repeat (first | with_reducible exact Z.Take.here | apply Z.Take.there)) (by rw [hstep, hst]) ?_
                                   refine Z.j_cast (A := Z.MapP pb (Value.int .u64) (Value.int .i64) s.pm) (B := Z.MapP pb (Value.int .u64) (Value.int .i64) (es os most idle abs (i + 1)).pm) (by repeat (first | with_reducible exact Z.Take.here | apply Z.Take.there)) (by rw [hstep, hst]) ?_)
                                | (have hst := step_d (s := s) (o := o) (by omega) hc116 (by rw [hN]; exact hc92)
                                   rw [hN] at hst
                                   refine Z.j_cast (A := TabP tb (s.t.useT o.t N)) (B := TabP tb (es os most idle abs (i + 1)).t) (by repeat (first | with_reducible exact Z.Take.here | apply Z.Take.there)) (by rw [hstep, hst]) ?_
                                   refine Z.j_cast (A := Z.MapP bb (Value.int .u64) (Value.int .i64) s.bm) (B := Z.MapP bb (Value.int .u64) (Value.int .i64) (es os most idle abs (i + 1)).bm) (by repeat (first | with_reducible exact Z.Take.here | apply Z.Take.there)) (by rw [hstep, hst]) ?_
                                   refine Z.j_cast (A := Z.MapP pb (Value.int .u64) (Value.int .i64) s.pm) (B := Z.MapP pb (Value.int .u64) (Value.int .i64) (es os most idle abs (i + 1)).pm) (by repeat (first | with_reducible exact Z.Take.here | apply Z.Take.there)) (by rw [hstep, hst]) ?_)
                                | (have hst := step_e (s := s) (o := o) (by omega) hc116 (by rw [hN]; exact hc92)
                                   rw [hN] at hst
                                   refine Z.j_cast (A := TabP tb (s.t.useT o.t N)) (B := TabP tb (es os most idle abs (i + 1)).t) (by repeat (first | with_reducible exact Z.Take.here | apply Z.Take.there)) (by rw [hstep, hst]) ?_
                                   refine Z.j_cast (A := Z.MapP bb (Value.int .u64) (Value.int .i64) (Z.mdel o.t s.bm)) (B := Z.MapP bb (Value.int .u64) (Value.int .i64) (es os most idle abs (i + 1)).bm) (by repeat (first | with_reducible exact Z.Take.here | apply Z.Take.there)) (by rw [hstep, hst]) ?_
                                   refine Z.j_cast (A := Z.MapP pb (Value.int .u64) (Value.int .i64) s.pm) (B := Z.MapP pb (Value.int .u64) (Value.int .i64) (es os most idle abs (i + 1)).pm) (by repeat (first | with_reducible exact Z.Take.here | apply Z.Take.there)) (by rw [hstep, hst]) ?_)
                                refine Z.j_region ?_
                                refine Z.s_val (Z.pv_move rfl) ?_
                                refine Z.s_callD rfl rfl rfl isFn13 (by repeat (first | with_reducible exact Z.Takes.nil | (apply Z.Takes.cons; (repeat (first | with_reducible exact Z.Take.here | apply Z.Take.there))))) (by repeat (first | exact Z.App.nil | apply Z.App.cons)) (len_spec _ tb (es os most idle abs (i + 1)).t) ?_
                                refine Z.s_val (Z.pv_move rfl) ?_
                                refine Z.s_val (Z.pv_gtr rfl rfl) ?_
                                refine Z.j_nil ?_
                                refine Z.j_then ?_
                                refine Z.j_cond rfl (fun hc128 => ?_) (fun hc128 => ?_)
                                · try (with_reducible first | replace hc128 := of_decide_eq_true hc128 | replace hc128 := of_decide_eq_false hc128 | replace hc128 := Z.nd_true hc128 | replace hc128 := Z.nd_false hc128 | replace hc128 := Z.nn_true hc128 | replace hc128 := Z.nn_false hc128 | replace hc128 := Z.nb_true hc128 | replace hc128 := Z.nb_false hc128)
                                  have := hEI2.len; omega
                                · try (with_reducible first | replace hc128 := of_decide_eq_true hc128 | replace hc128 := of_decide_eq_false hc128 | replace hc128 := Z.nd_true hc128 | replace hc128 := Z.nd_false hc128 | replace hc128 := Z.nn_true hc128 | replace hc128 := Z.nn_false hc128 | replace hc128 := Z.nb_true hc128 | replace hc128 := Z.nb_false hc128)
                                  first
                                  | (exfalso; first | (cases hc128; done) | omega)
                                  | skip
                                    refine Z.j_skip ?_
                                    refine Z.j_blk ?_
                                    refine Z.j_then ?_
                                    refine Z.j_region ?_
                                    refine Z.s_val (Z.pv_add rfl rfl (by first | exact IntWalk.i64_in _ (by omega) | rfl)) ?_
                                    refine Z.s_val (Z.pv_move rfl) ?_
                                    refine Z.j_nil ?_
                                    refine Z.j_then ?_
                                    refine Z.s_is 13 rfl (show _ = Value.int .i64 (es os most idle abs (i + 1)).now from by rw [hstep, step_now, hN]) ?_
                                    (refine Z.j_nextG (X := { x : (Nat) // (x) ≤ n1 }) (EE := (fun (x : { x : (Nat) // (x) ≤ n1 }) => [(0, .int .i64 most), (1, .int .i64 idle), (2, .int .i64 abs), (3, .slice p1 n1 cap1), (9, .pointer (some ⟨tb, 0, none⟩)), (11, .map (some bb)), (12, .map (some pb)), (13, .int .i64 (es os most idle abs (x.1)).now), (42, .slice p1 n1 cap1), (43, .int .i64 n1), (44, .int .i64 ((x.1) : Nat))])) (LL := (fun (x : { x : (Nat) // (x) ≤ n1 }) => [TabP tb (es os most idle abs (x.1)).t, Z.MapP bb (Value.int .u64) (Value.int .i64) (es os most idle abs (x.1)).bm, Z.MapP pb (Value.int .u64) (Value.int .i64) (es os most idle abs (x.1)).pm])) (μ := (fun (x : { x : (Nat) // (x) ≤ n1 }) => n1 - (x.1))) (x := ⟨(i), hinv⟩) ⟨(i + 1), by omega⟩ ?_ ?_ ?_; (show n1 - (i + 1) < n1 - i; omega); (exact (by repeat (first | exact trivial | refine ⟨rfl, ?_⟩))); (exact Z.st_td (by repeat (first | with_reducible exact Z.Takes.nil | (apply Z.Takes.cons; (repeat (first | with_reducible exact Z.Take.here | apply Z.Take.there))))) (by repeat (first | with_reducible exact Z.Drop.nil | apply Z.Drop.cons))))
                          · try (with_reducible first | replace hc106 := of_decide_eq_true hc106 | replace hc106 := of_decide_eq_false hc106 | replace hc106 := Z.nd_true hc106 | replace hc106 := Z.nd_false hc106 | replace hc106 := Z.nn_true hc106 | replace hc106 := Z.nn_false hc106 | replace hc106 := Z.nb_true hc106 | replace hc106 := Z.nb_false hc106)
                            first
                            | (exfalso; first | (cases hc106; done) | omega)
                            | skip
                              refine Z.j_skip ?_
                              refine Z.j_blk ?_
                              refine Z.j_then ?_
                              refine Z.j_seq ?_
                              first
                              | (have hst := step_a (s := s) (o := o) (by omega) (by rw [hN]; exact hc106)
                                 rw [hN] at hst
                                 refine Z.j_cast (A := TabP tb (s.t.openT o.p o.t N)) (B := TabP tb (es os most idle abs (i + 1)).t) (by repeat (first | with_reducible exact Z.Take.here | apply Z.Take.there)) (by rw [hstep, hst]) ?_
                                 refine Z.j_cast (A := Z.MapP bb (Value.int .u64) (Value.int .i64) (Z.mput o.t N s.bm)) (B := Z.MapP bb (Value.int .u64) (Value.int .i64) (es os most idle abs (i + 1)).bm) (by repeat (first | with_reducible exact Z.Take.here | apply Z.Take.there)) (by rw [hstep, hst]) ?_
                                 refine Z.j_cast (A := Z.MapP pb (Value.int .u64) (Value.int .i64) (Z.mput o.t o.p s.pm)) (B := Z.MapP pb (Value.int .u64) (Value.int .i64) (es os most idle abs (i + 1)).pm) (by repeat (first | with_reducible exact Z.Take.here | apply Z.Take.there)) (by rw [hstep, hst]) ?_)
                              | (have hst := step_b (s := s) (o := o) (by omega) (by rw [hN]; exact hc106)
                                 rw [hN] at hst
                                 refine Z.j_cast (A := TabP tb (s.t.openT o.p o.t N)) (B := TabP tb (es os most idle abs (i + 1)).t) (by repeat (first | with_reducible exact Z.Take.here | apply Z.Take.there)) (by rw [hstep, hst]) ?_
                                 refine Z.j_cast (A := Z.MapP bb (Value.int .u64) (Value.int .i64) s.bm) (B := Z.MapP bb (Value.int .u64) (Value.int .i64) (es os most idle abs (i + 1)).bm) (by repeat (first | with_reducible exact Z.Take.here | apply Z.Take.there)) (by rw [hstep, hst]) ?_
                                 refine Z.j_cast (A := Z.MapP pb (Value.int .u64) (Value.int .i64) s.pm) (B := Z.MapP pb (Value.int .u64) (Value.int .i64) (es os most idle abs (i + 1)).pm) (by repeat (first | with_reducible exact Z.Take.here | apply Z.Take.there)) (by rw [hstep, hst]) ?_)
                              | (have hst := step_c (s := s) (o := o) (by omega) hc116
                                 rw [hN] at hst
                                 refine Z.j_cast (A := TabP tb (s.t.close o.t)) (B := TabP tb (es os most idle abs (i + 1)).t) (by repeat (first | with_reducible exact Z.Take.here | apply Z.Take.there)) (by rw [hstep, hst]) ?_
                                 refine Z.j_cast (A := Z.MapP bb (Value.int .u64) (Value.int .i64) (Z.mdel o.t s.bm)) (B := Z.MapP bb (Value.int .u64) (Value.int .i64) (es os most idle abs (i + 1)).bm) (by repeat (first | with_reducible exact Z.Take.here | apply Z.Take.there)) (by rw [hstep, hst]) ?_
                                 refine Z.j_cast (A := Z.MapP pb (Value.int .u64) (Value.int .i64) s.pm) (B := Z.MapP pb (Value.int .u64) (Value.int .i64) (es os most idle abs (i + 1)).pm) (by repeat (first | with_reducible exact Z.Take.here | apply Z.Take.there)) (by rw [hstep, hst]) ?_)
                              | (have hst := step_d (s := s) (o := o) (by omega) hc116 (by rw [hN]; exact hc92)
                                 rw [hN] at hst
                                 refine Z.j_cast (A := TabP tb (s.t.useT o.t N)) (B := TabP tb (es os most idle abs (i + 1)).t) (by repeat (first | with_reducible exact Z.Take.here | apply Z.Take.there)) (by rw [hstep, hst]) ?_
                                 refine Z.j_cast (A := Z.MapP bb (Value.int .u64) (Value.int .i64) s.bm) (B := Z.MapP bb (Value.int .u64) (Value.int .i64) (es os most idle abs (i + 1)).bm) (by repeat (first | with_reducible exact Z.Take.here | apply Z.Take.there)) (by rw [hstep, hst]) ?_
                                 refine Z.j_cast (A := Z.MapP pb (Value.int .u64) (Value.int .i64) s.pm) (B := Z.MapP pb (Value.int .u64) (Value.int .i64) (es os most idle abs (i + 1)).pm) (by repeat (first | with_reducible exact Z.Take.here | apply Z.Take.there)) (by rw [hstep, hst]) ?_)
                              | (have hst := step_e (s := s) (o := o) (by omega) hc116 (by rw [hN]; exact hc92)
                                 rw [hN] at hst
                                 refine Z.j_cast (A := TabP tb (s.t.useT o.t N)) (B := TabP tb (es os most idle abs (i + 1)).t) (by repeat (first | with_reducible exact Z.Take.here | apply Z.Take.there)) (by rw [hstep, hst]) ?_
                                 refine Z.j_cast (A := Z.MapP bb (Value.int .u64) (Value.int .i64) (Z.mdel o.t s.bm)) (B := Z.MapP bb (Value.int .u64) (Value.int .i64) (es os most idle abs (i + 1)).bm) (by repeat (first | with_reducible exact Z.Take.here | apply Z.Take.there)) (by rw [hstep, hst]) ?_
                                 refine Z.j_cast (A := Z.MapP pb (Value.int .u64) (Value.int .i64) s.pm) (B := Z.MapP pb (Value.int .u64) (Value.int .i64) (es os most idle abs (i + 1)).pm) (by repeat (first | with_reducible exact Z.Take.here | apply Z.Take.there)) (by rw [hstep, hst]) ?_)
                              refine Z.j_region ?_
                              refine Z.s_val (Z.pv_move rfl) ?_
                              refine Z.s_callD rfl rfl rfl isFn13 (by repeat (first | with_reducible exact Z.Takes.nil | (apply Z.Takes.cons; (repeat (first | with_reducible exact Z.Take.here | apply Z.Take.there))))) (by repeat (first | exact Z.App.nil | apply Z.App.cons)) (len_spec _ tb (es os most idle abs (i + 1)).t) ?_
                              refine Z.s_val (Z.pv_move rfl) ?_
                              refine Z.s_val (Z.pv_gtr rfl rfl) ?_
                              refine Z.j_nil ?_
                              refine Z.j_then ?_
                              refine Z.j_cond rfl (fun hc128 => ?_) (fun hc128 => ?_)
                              · try (with_reducible first | replace hc128 := of_decide_eq_true hc128 | replace hc128 := of_decide_eq_false hc128 | replace hc128 := Z.nd_true hc128 | replace hc128 := Z.nd_false hc128 | replace hc128 := Z.nn_true hc128 | replace hc128 := Z.nn_false hc128 | replace hc128 := Z.nb_true hc128 | replace hc128 := Z.nb_false hc128)
                                have := hEI2.len; omega
                              · try (with_reducible first | replace hc128 := of_decide_eq_true hc128 | replace hc128 := of_decide_eq_false hc128 | replace hc128 := Z.nd_true hc128 | replace hc128 := Z.nd_false hc128 | replace hc128 := Z.nn_true hc128 | replace hc128 := Z.nn_false hc128 | replace hc128 := Z.nb_true hc128 | replace hc128 := Z.nb_false hc128)
                                first
                                | (exfalso; first | (cases hc128; done) | omega)
                                | skip
                                  refine Z.j_skip ?_
                                  refine Z.j_blk ?_
                                  refine Z.j_then ?_
                                  refine Z.j_region ?_
                                  refine Z.s_val (Z.pv_add rfl rfl (by first | exact IntWalk.i64_in _ (by omega) | rfl)) ?_
                                  refine Z.s_val (Z.pv_move rfl) ?_
                                  refine Z.j_nil ?_
                                  refine Z.j_then ?_
                                  refine Z.s_is 13 rfl (show _ = Value.int .i64 (es os most idle abs (i + 1)).now from by rw [hstep, step_now, hN]) ?_
                                  (refine Z.j_nextG (X := { x : (Nat) // (x) ≤ n1 }) (EE := (fun (x : { x : (Nat) // (x) ≤ n1 }) => [(0, .int .i64 most), (1, .int .i64 idle), (2, .int .i64 abs), (3, .slice p1 n1 cap1), (9, .pointer (some ⟨tb, 0, none⟩)), (11, .map (some bb)), (12, .map (some pb)), (13, .int .i64 (es os most idle abs (x.1)).now), (42, .slice p1 n1 cap1), (43, .int .i64 n1), (44, .int .i64 ((x.1) : Nat))])) (LL := (fun (x : { x : (Nat) // (x) ≤ n1 }) => [TabP tb (es os most idle abs (x.1)).t, Z.MapP bb (Value.int .u64) (Value.int .i64) (es os most idle abs (x.1)).bm, Z.MapP pb (Value.int .u64) (Value.int .i64) (es os most idle abs (x.1)).pm])) (μ := (fun (x : { x : (Nat) // (x) ≤ n1 }) => n1 - (x.1))) (x := ⟨(i), hinv⟩) ⟨(i + 1), by omega⟩ ?_ ?_ ?_; (show n1 - (i + 1) < n1 - i; omega); (exact (by repeat (first | exact trivial | refine ⟨rfl, ?_⟩))); (exact Z.st_td (by repeat (first | with_reducible exact Z.Takes.nil | (apply Z.Takes.cons; (repeat (first | with_reducible exact Z.Take.here | apply Z.Take.there))))) (by repeat (first | with_reducible exact Z.Drop.nil | apply Z.Drop.cons))))
                      · exfalso; first | (cases hc96; done) | (simp at hc96; done) | (simp at hc96; omega)
                  · try (with_reducible first | replace hc96 := of_decide_eq_true hc96 | replace hc96 := of_decide_eq_false hc96 | replace hc96 := Z.nd_true hc96 | replace hc96 := Z.nd_false hc96 | replace hc96 := Z.nn_true hc96 | replace hc96 := Z.nn_false hc96 | replace hc96 := Z.nb_true hc96 | replace hc96 := Z.nb_false hc96)
                    first
                    | (exfalso; first | (cases hc96; done) | omega)
                    | skip
                      refine Z.j_region ?_
                      refine Z.s_val (Z.pv_eql rfl rfl) ?_
                      refine Z.s_val (Z.pv_assign rfl) ?_
                      refine Z.j_nil ?_
                      refine Z.j_then ?_
                      refine Z.j_cond rfl (fun hc96 => ?_) (fun hc96 => ?_)
                      · try (with_reducible first | replace hc96 := of_decide_eq_true hc96 | replace hc96 := of_decide_eq_false hc96 | replace hc96 := Z.nd_true hc96 | replace hc96 := Z.nd_false hc96 | replace hc96 := Z.nn_true hc96 | replace hc96 := Z.nn_false hc96 | replace hc96 := Z.nb_true hc96 | replace hc96 := Z.nb_false hc96)
                        first
                        | (exfalso; first | (cases hc96; done) | omega)
                        | skip
                          refine Z.j_seq ?_
                          refine Z.j_region ?_
                          refine Z.s_val (Z.pv_move rfl) ?_
                          refine Z.s_val (Z.pv_fieldAddr (o' := 1) rfl Try.underlying33 rfl Try.sizeOf3 rfl) ?_
                          refine Z.s_val (Z.pv_load1 rfl (by repeat (first | with_reducible exact Z.Take.here | apply Z.Take.there)) Try.isAgg3 (by rfl)) ?_
                          refine Z.s_val (Z.pv_fieldAddr (o' := 2) rfl Try.underlying33 rfl Try.sizeOf31 rfl) ?_
                          refine Z.s_val (Z.pv_load1 rfl (by repeat (first | with_reducible exact Z.Take.here | apply Z.Take.there)) Try.isAgg31 (by rfl)) ?_
                          refine Z.s_val (Z.pv_move rfl) ?_
                          refine Z.s_callD rfl rfl rfl isFn10 (by repeat (first | with_reducible exact Z.Takes.nil | (apply Z.Takes.cons; (repeat (first | with_reducible exact Z.Take.here | apply Z.Take.there))))) (by repeat (first | exact Z.App.nil | apply Z.App.cons)) (open_spec _ tb s.t o.p o.t N hok) ?_
                          refine Z.s_val (Z.pv_eql rfl rfl) ?_
                          refine Z.j_nil ?_
                          refine Z.j_then ?_
                          refine Z.j_cond rfl (fun hc106 => ?_) (fun hc106 => ?_)
                          · try (with_reducible first | replace hc106 := of_decide_eq_true hc106 | replace hc106 := of_decide_eq_false hc106 | replace hc106 := Z.nd_true hc106 | replace hc106 := Z.nd_false hc106 | replace hc106 := Z.nn_true hc106 | replace hc106 := Z.nn_false hc106 | replace hc106 := Z.nb_true hc106 | replace hc106 := Z.nb_false hc106)
                            first
                            | (exfalso; first | (cases hc106; done) | omega)
                            | skip
                              refine Z.j_drawT [⟨none, none, [2, 5, 8], fun ρ => Z.cl b15 33 [.int .i64 o.k, .int .i64 o.p, .int .u64 o.t, .int .i64 o.n]⟩, ⟨none, (some 9), [], fun ρ => Z.MapP bb (Value.int .u64) (Value.int .i64) s.bm⟩, ⟨(some 9), none, [], fun ρ => Z.MapP bb (Value.int .u64) (Value.int .i64) (Z.mput o.t N s.bm)⟩, ⟨none, (some 10), [], fun ρ => Z.MapP pb (Value.int .u64) (Value.int .i64) s.pm⟩, ⟨(some 10), none, [], fun ρ => Z.MapP pb (Value.int .u64) (Value.int .i64) (Z.mput o.t o.p s.pm)⟩] [9, 10] (fun ρ => [.map (some bb), .pointer (some ⟨b15, 2, none⟩), .int .u64 o.t, .map (some pb), .pointer (some ⟨b15, 2, none⟩), .int .u64 o.t, .int .i64 N, .pointer (some ⟨b15, 1, none⟩), .int .i64 o.p, ρ 9, ρ 10]) (by kernel_rfl) (by kernel_rfl) (by rfl) (fun _ => rfl) ⟨fun _ => rfl, fun _ _ => rfl, fun _ _ => rfl, ⟨fun _ => rfl, fun _ _ => rfl, fun _ _ => rfl, trivial⟩⟩ (fun ρ => (by repeat (first | with_reducible exact Z.Takes.nil | (apply Z.Takes.cons; (repeat (first | with_reducible exact Z.Take.here | apply Z.Take.there))) | exact Z.Takes.nil))) ?_ (fun ρ => ?_)
                              · skip
                                refine Z.tops_cons ?_ ?_
                                · refine Z.top_q (fun ρ => .map (some bb)) rfl (fun _ => rfl) (fun ρ Rr => ?_)
                                  show Z.HQ _ _ _ _ _ _ (Rr) _ _
                                  exact (Z.hq_val (Z.pv_move rfl))
                                refine Z.tops_cons ?_ ?_
                                · refine Z.top_q (fun ρ => .pointer (some ⟨b15, 2, none⟩)) rfl (fun _ => rfl) (fun ρ Rr => ?_)
                                  show Z.HQ _ _ _ _ _ _ (Rr) _ _
                                  exact (Z.hq_val (Z.pv_fieldAddr (o' := 2) rfl Try.underlying33 rfl Try.sizeOf31 rfl))
                                refine Z.tops_cons ?_ ?_
                                · refine Z.top_q (fun ρ => .int .u64 o.t) rfl (fun _ => rfl) (fun ρ Rr => ?_)
                                  show Z.HQ _ _ _ _ _ _ (Z.cl b15 33 [.int .i64 o.k, .int .i64 o.p, .int .u64 o.t, .int .i64 o.n] :: Rr) _ _
                                  exact (Z.hq_val (Z.pv_load1 rfl (by repeat (first | with_reducible exact Z.Take.here | apply Z.Take.there)) Try.isAgg31 (by rfl)))
                                refine Z.tops_cons ?_ ?_
                                · refine Z.top_q (fun ρ => .map (some pb)) rfl (fun _ => rfl) (fun ρ Rr => ?_)
                                  show Z.HQ _ _ _ _ _ _ (Rr) _ _
                                  exact (Z.hq_val (Z.pv_move rfl))
                                refine Z.tops_cons ?_ ?_
                                · refine Z.top_q (fun ρ => .pointer (some ⟨b15, 2, none⟩)) rfl (fun _ => rfl) (fun ρ Rr => ?_)
                                  show Z.HQ _ _ _ _ _ _ (Rr) _ _
                                  exact (Z.hq_val (Z.pv_fieldAddr (o' := 2) rfl Try.underlying33 rfl Try.sizeOf31 rfl))
                                refine Z.tops_cons ?_ ?_
                                · refine Z.top_q (fun ρ => .int .u64 o.t) rfl (fun _ => rfl) (fun ρ Rr => ?_)
                                  show Z.HQ _ _ _ _ _ _ (Z.cl b15 33 [.int .i64 o.k, .int .i64 o.p, .int .u64 o.t, .int .i64 o.n] :: Rr) _ _
                                  exact (Z.hq_val (Z.pv_load1 rfl (by repeat (first | with_reducible exact Z.Take.here | apply Z.Take.there)) Try.isAgg31 (by rfl)))
                                refine Z.tops_cons ?_ ?_
                                · refine Z.top_q (fun ρ => .int .i64 N) rfl (fun _ => rfl) (fun ρ Rr => ?_)
                                  show Z.HQ _ _ _ _ _ _ (Rr) _ _
                                  exact (Z.hq_val (Z.pv_move rfl))
                                refine Z.tops_cons ?_ ?_
                                · refine Z.top_q (fun ρ => .pointer (some ⟨b15, 1, none⟩)) rfl (fun _ => rfl) (fun ρ Rr => ?_)
                                  show Z.HQ _ _ _ _ _ _ (Rr) _ _
                                  exact (Z.hq_val (Z.pv_fieldAddr (o' := 1) rfl Try.underlying33 rfl Try.sizeOf3 rfl))
                                refine Z.tops_cons ?_ ?_
                                · refine Z.top_q (fun ρ => .int .i64 o.p) rfl (fun _ => rfl) (fun ρ Rr => ?_)
                                  show Z.HQ _ _ _ _ _ _ (Z.cl b15 33 [.int .i64 o.k, .int .i64 o.p, .int .u64 o.t, .int .i64 o.n] :: Rr) _ _
                                  exact (Z.hq_val (Z.pv_load1 rfl (by repeat (first | with_reducible exact Z.Take.here | apply Z.Take.there)) Try.isAgg3 (by rfl)))
                                refine Z.tops_cons ?_ ?_
                                · refine Z.top_c rfl (fun ρ Rr => ?_)
                                  refine Z.hn_of0 rfl (by rfl) rfl ?_
                                  show Z.J _ _ _ _ ([Z.MapP bb (Value.int .u64) (Value.int .i64) s.bm] ++ Rr) _
                                  refine Z.j_app (by repeat (first | exact Z.App.nil | apply Z.App.cons)) ?_
                                  refine Z.s_mapUpdate (k := o.t) (v := N) rfl rfl rfl Try.underlying29 kU64 (by repeat (first | with_reducible exact Z.Take.here | apply Z.Take.there)) ?_
                                  refine Z.j_nil ?_
                                  refine Z.hn_end0 (fun _ => Z.st_td (by repeat (first | with_reducible exact Z.Takes.nil | (apply Z.Takes.cons; (repeat (first | exact Z.Take.here | apply Z.Take.there))) | exact Z.Takes.nil)) (by repeat (first | with_reducible exact Z.Drop.nil | apply Z.Drop.cons)))
                                refine Z.tops_cons ?_ ?_
                                · refine Z.top_c rfl (fun ρ Rr => ?_)
                                  refine Z.hn_of0 rfl (by rfl) rfl ?_
                                  show Z.J _ _ _ _ ([Z.MapP pb (Value.int .u64) (Value.int .i64) s.pm] ++ Rr) _
                                  refine Z.j_app (by repeat (first | exact Z.App.nil | apply Z.App.cons)) ?_
                                  refine Z.s_mapUpdate (k := o.t) (v := o.p) rfl rfl rfl Try.underlying30 kU64 (by repeat (first | with_reducible exact Z.Take.here | apply Z.Take.there)) ?_
                                  refine Z.j_nil ?_
                                  refine Z.hn_end0 (fun _ => Z.st_td (by repeat (first | with_reducible exact Z.Takes.nil | (apply Z.Takes.cons; (repeat (first | exact Z.Take.here | apply Z.Take.there))) | exact Z.Takes.nil)) (by repeat (first | with_reducible exact Z.Drop.nil | apply Z.Drop.cons)))
                                exact Z.tops_nil
                              · show Z.J _ _ _ _ ([Z.cl b15 33 [.int .i64 o.k, .int .i64 o.p, .int .u64 o.t, .int .i64 o.n], Z.MapP bb (Value.int .u64) (Value.int .i64) (Z.mput o.t N s.bm), Z.MapP pb (Value.int .u64) (Value.int .i64) (Z.mput o.t o.p s.pm)] ++ _) _
                                refine Z.j_app (by repeat (first | exact Z.App.nil | apply Z.App.cons)) ?_
                                refine Z.j_blk ?_
                                refine Z.j_then ?_
                                refine Z.j_seq ?_
                                first
                                | (have hst := step_a (s := s) (o := o) (by omega) (by rw [hN]; exact hc106)
                                   rw [hN] at hst
                                   refine Z.j_cast (A := TabP tb (s.t.openT o.p o.t N)) (B := TabP tb (es os most idle abs (i + 1)).t) (by repeat (first | with_reducible exact Z.Take.here | apply Z.Take.there)) (by rw [hstep, hst]) ?_
                                   refine Z.j_cast (A := Z.MapP bb (Value.int .u64) (Value.int .i64) (Z.mput o.t N s.bm)) (B := Z.MapP bb (Value.int .u64) (Value.int .i64) (es os most idle abs (i + 1)).bm) (by repeat (first | with_reducible exact Z.Take.here | apply Z.Take.there)) (by rw [hstep, hst]) ?_
                                   refine Z.j_cast (A := Z.MapP pb (Value.int .u64) (Value.int .i64) (Z.mput o.t o.p s.pm)) (B := Z.MapP pb (Value.int .u64) (Value.int .i64) (es os most idle abs (i + 1)).pm) (by repeat (first | with_reducible exact Z.Take.here | apply Z.Take.there)) (by rw [hstep, hst]) ?_)
                                | (have hst := step_b (s := s) (o := o) (by omega) (by rw [hN]; exact hc106)
                                   rw [hN] at hst
                                   refine Z.j_cast (A := TabP tb (s.t.openT o.p o.t N)) (B := TabP tb (es os most idle abs (i + 1)).t) (by repeat (first | with_reducible exact Z.Take.here | apply Z.Take.there)) (by rw [hstep, hst]) ?_
                                   refine Z.j_cast (A := Z.MapP bb (Value.int .u64) (Value.int .i64) s.bm) (B := Z.MapP bb (Value.int .u64) (Value.int .i64) (es os most idle abs (i + 1)).bm) (by repeat (first | with_reducible exact Z.Take.here | apply Z.Take.there)) (by rw [hstep, hst]) ?_
                                   refine Z.j_cast (A := Z.MapP pb (Value.int .u64) (Value.int .i64) s.pm) (B := Z.MapP pb (Value.int .u64) (Value.int .i64) (es os most idle abs (i + 1)).pm) (by repeat (first | with_reducible exact Z.Take.here | apply Z.Take.there)) (by rw [hstep, hst]) ?_)
                                | (have hst := step_c (s := s) (o := o) (by omega) hc116
                                   rw [hN] at hst
                                   refine Z.j_cast (A := TabP tb (s.t.close o.t)) (B := TabP tb (es os most idle abs (i + 1)).t) (by repeat (first | with_reducible exact Z.Take.here | apply Z.Take.there)) (by rw [hstep, hst]) ?_
                                   refine Z.j_cast (A := Z.MapP bb (Value.int .u64) (Value.int .i64) (Z.mdel o.t s.bm)) (B := Z.MapP bb (Value.int .u64) (Value.int .i64) (es os most idle abs (i + 1)).bm) (by repeat (first | with_reducible exact Z.Take.here | apply Z.Take.there)) (by rw [hstep, hst]) ?_
                                   refine Z.j_cast (A := Z.MapP pb (Value.int .u64) (Value.int .i64) s.pm) (B := Z.MapP pb (Value.int .u64) (Value.int .i64) (es os most idle abs (i + 1)).pm) (by repeat (first | with_reducible exact Z.Take.here | apply Z.Take.there)) (by rw [hstep, hst]) ?_)
                                | (have hst := step_d (s := s) (o := o) (by omega) hc116 (by rw [hN]; exact hc92)
                                   rw [hN] at hst
                                   refine Z.j_cast (A := TabP tb (s.t.useT o.t N)) (B := TabP tb (es os most idle abs (i + 1)).t) (by repeat (first | with_reducible exact Z.Take.here | apply Z.Take.there)) (by rw [hstep, hst]) ?_
                                   refine Z.j_cast (A := Z.MapP bb (Value.int .u64) (Value.int .i64) s.bm) (B := Z.MapP bb (Value.int .u64) (Value.int .i64) (es os most idle abs (i + 1)).bm) (by repeat (first | with_reducible exact Z.Take.here | apply Z.Take.there)) (by rw [hstep, hst]) ?_
                                   refine Z.j_cast (A := Z.MapP pb (Value.int .u64) (Value.int .i64) s.pm) (B := Z.MapP pb (Value.int .u64) (Value.int .i64) (es os most idle abs (i + 1)).pm) (by repeat (first | with_reducible exact Z.Take.here | apply Z.Take.there)) (by rw [hstep, hst]) ?_)
                                | (have hst := step_e (s := s) (o := o) (by omega) hc116 (by rw [hN]; exact hc92)
                                   rw [hN] at hst
                                   refine Z.j_cast (A := TabP tb (s.t.useT o.t N)) (B := TabP tb (es os most idle abs (i + 1)).t) (by repeat (first | with_reducible exact Z.Take.here | apply Z.Take.there)) (by rw [hstep, hst]) ?_
                                   refine Z.j_cast (A := Z.MapP bb (Value.int .u64) (Value.int .i64) (Z.mdel o.t s.bm)) (B := Z.MapP bb (Value.int .u64) (Value.int .i64) (es os most idle abs (i + 1)).bm) (by repeat (first | with_reducible exact Z.Take.here | apply Z.Take.there)) (by rw [hstep, hst]) ?_
                                   refine Z.j_cast (A := Z.MapP pb (Value.int .u64) (Value.int .i64) s.pm) (B := Z.MapP pb (Value.int .u64) (Value.int .i64) (es os most idle abs (i + 1)).pm) (by repeat (first | with_reducible exact Z.Take.here | apply Z.Take.there)) (by rw [hstep, hst]) ?_)
                                refine Z.j_region ?_
                                refine Z.s_val (Z.pv_move rfl) ?_
                                refine Z.s_callD rfl rfl rfl isFn13 (by repeat (first | with_reducible exact Z.Takes.nil | (apply Z.Takes.cons; (repeat (first | with_reducible exact Z.Take.here | apply Z.Take.there))))) (by repeat (first | exact Z.App.nil | apply Z.App.cons)) (len_spec _ tb (es os most idle abs (i + 1)).t) ?_
                                refine Z.s_val (Z.pv_move rfl) ?_
                                refine Z.s_val (Z.pv_gtr rfl rfl) ?_
                                refine Z.j_nil ?_
                                refine Z.j_then ?_
                                refine Z.j_cond rfl (fun hc128 => ?_) (fun hc128 => ?_)
                                · try (with_reducible first | replace hc128 := of_decide_eq_true hc128 | replace hc128 := of_decide_eq_false hc128 | replace hc128 := Z.nd_true hc128 | replace hc128 := Z.nd_false hc128 | replace hc128 := Z.nn_true hc128 | replace hc128 := Z.nn_false hc128 | replace hc128 := Z.nb_true hc128 | replace hc128 := Z.nb_false hc128)
                                  have := hEI2.len; omega
                                · try (with_reducible first | replace hc128 := of_decide_eq_true hc128 | replace hc128 := of_decide_eq_false hc128 | replace hc128 := Z.nd_true hc128 | replace hc128 := Z.nd_false hc128 | replace hc128 := Z.nn_true hc128 | replace hc128 := Z.nn_false hc128 | replace hc128 := Z.nb_true hc128 | replace hc128 := Z.nb_false hc128)
                                  first
                                  | (exfalso; first | (cases hc128; done) | omega)
                                  | skip
                                    refine Z.j_skip ?_
                                    refine Z.j_blk ?_
                                    refine Z.j_then ?_
                                    refine Z.j_region ?_
                                    refine Z.s_val (Z.pv_add rfl rfl (by first | exact IntWalk.i64_in _ (by omega) | rfl)) ?_
                                    refine Z.s_val (Z.pv_move rfl) ?_
                                    refine Z.j_nil ?_
                                    refine Z.j_then ?_
                                    refine Z.s_is 13 rfl (show _ = Value.int .i64 (es os most idle abs (i + 1)).now from by rw [hstep, step_now, hN]) ?_
                                    (refine Z.j_nextG (X := { x : (Nat) // (x) ≤ n1 }) (EE := (fun (x : { x : (Nat) // (x) ≤ n1 }) => [(0, .int .i64 most), (1, .int .i64 idle), (2, .int .i64 abs), (3, .slice p1 n1 cap1), (9, .pointer (some ⟨tb, 0, none⟩)), (11, .map (some bb)), (12, .map (some pb)), (13, .int .i64 (es os most idle abs (x.1)).now), (42, .slice p1 n1 cap1), (43, .int .i64 n1), (44, .int .i64 ((x.1) : Nat))])) (LL := (fun (x : { x : (Nat) // (x) ≤ n1 }) => [TabP tb (es os most idle abs (x.1)).t, Z.MapP bb (Value.int .u64) (Value.int .i64) (es os most idle abs (x.1)).bm, Z.MapP pb (Value.int .u64) (Value.int .i64) (es os most idle abs (x.1)).pm])) (μ := (fun (x : { x : (Nat) // (x) ≤ n1 }) => n1 - (x.1))) (x := ⟨(i), hinv⟩) ⟨(i + 1), by omega⟩ ?_ ?_ ?_; (show n1 - (i + 1) < n1 - i; omega); (exact (by repeat (first | exact trivial | refine ⟨rfl, ?_⟩))); (exact Z.st_td (by repeat (first | with_reducible exact Z.Takes.nil | (apply Z.Takes.cons; (repeat (first | with_reducible exact Z.Take.here | apply Z.Take.there))))) (by repeat (first | with_reducible exact Z.Drop.nil | apply Z.Drop.cons))))
                          · try (with_reducible first | replace hc106 := of_decide_eq_true hc106 | replace hc106 := of_decide_eq_false hc106 | replace hc106 := Z.nd_true hc106 | replace hc106 := Z.nd_false hc106 | replace hc106 := Z.nn_true hc106 | replace hc106 := Z.nn_false hc106 | replace hc106 := Z.nb_true hc106 | replace hc106 := Z.nb_false hc106)
                            first
                            | (exfalso; first | (cases hc106; done) | omega)
                            | skip
                              refine Z.j_skip ?_
                              refine Z.j_blk ?_
                              refine Z.j_then ?_
                              refine Z.j_seq ?_
                              first
                              | (have hst := step_a (s := s) (o := o) (by omega) (by rw [hN]; exact hc106)
                                 rw [hN] at hst
                                 refine Z.j_cast (A := TabP tb (s.t.openT o.p o.t N)) (B := TabP tb (es os most idle abs (i + 1)).t) (by repeat (first | with_reducible exact Z.Take.here | apply Z.Take.there)) (by rw [hstep, hst]) ?_
                                 refine Z.j_cast (A := Z.MapP bb (Value.int .u64) (Value.int .i64) (Z.mput o.t N s.bm)) (B := Z.MapP bb (Value.int .u64) (Value.int .i64) (es os most idle abs (i + 1)).bm) (by repeat (first | with_reducible exact Z.Take.here | apply Z.Take.there)) (by rw [hstep, hst]) ?_
                                 refine Z.j_cast (A := Z.MapP pb (Value.int .u64) (Value.int .i64) (Z.mput o.t o.p s.pm)) (B := Z.MapP pb (Value.int .u64) (Value.int .i64) (es os most idle abs (i + 1)).pm) (by repeat (first | with_reducible exact Z.Take.here | apply Z.Take.there)) (by rw [hstep, hst]) ?_)
                              | (have hst := step_b (s := s) (o := o) (by omega) (by rw [hN]; exact hc106)
                                 rw [hN] at hst
                                 refine Z.j_cast (A := TabP tb (s.t.openT o.p o.t N)) (B := TabP tb (es os most idle abs (i + 1)).t) (by repeat (first | with_reducible exact Z.Take.here | apply Z.Take.there)) (by rw [hstep, hst]) ?_
                                 refine Z.j_cast (A := Z.MapP bb (Value.int .u64) (Value.int .i64) s.bm) (B := Z.MapP bb (Value.int .u64) (Value.int .i64) (es os most idle abs (i + 1)).bm) (by repeat (first | with_reducible exact Z.Take.here | apply Z.Take.there)) (by rw [hstep, hst]) ?_
                                 refine Z.j_cast (A := Z.MapP pb (Value.int .u64) (Value.int .i64) s.pm) (B := Z.MapP pb (Value.int .u64) (Value.int .i64) (es os most idle abs (i + 1)).pm) (by repeat (first | with_reducible exact Z.Take.here | apply Z.Take.there)) (by rw [hstep, hst]) ?_)
                              | (have hst := step_c (s := s) (o := o) (by omega) hc116
                                 rw [hN] at hst
                                 refine Z.j_cast (A := TabP tb (s.t.close o.t)) (B := TabP tb (es os most idle abs (i + 1)).t) (by repeat (first | with_reducible exact Z.Take.here | apply Z.Take.there)) (by rw [hstep, hst]) ?_
                                 refine Z.j_cast (A := Z.MapP bb (Value.int .u64) (Value.int .i64) (Z.mdel o.t s.bm)) (B := Z.MapP bb (Value.int .u64) (Value.int .i64) (es os most idle abs (i + 1)).bm) (by repeat (first | with_reducible exact Z.Take.here | apply Z.Take.there)) (by rw [hstep, hst]) ?_
                                 refine Z.j_cast (A := Z.MapP pb (Value.int .u64) (Value.int .i64) s.pm) (B := Z.MapP pb (Value.int .u64) (Value.int .i64) (es os most idle abs (i + 1)).pm) (by repeat (first | with_reducible exact Z.Take.here | apply Z.Take.there)) (by rw [hstep, hst]) ?_)
                              | (have hst := step_d (s := s) (o := o) (by omega) hc116 (by rw [hN]; exact hc92)
                                 rw [hN] at hst
                                 refine Z.j_cast (A := TabP tb (s.t.useT o.t N)) (B := TabP tb (es os most idle abs (i + 1)).t) (by repeat (first | with_reducible exact Z.Take.here | apply Z.Take.there)) (by rw [hstep, hst]) ?_
                                 refine Z.j_cast (A := Z.MapP bb (Value.int .u64) (Value.int .i64) s.bm) (B := Z.MapP bb (Value.int .u64) (Value.int .i64) (es os most idle abs (i + 1)).bm) (by repeat (first | with_reducible exact Z.Take.here | apply Z.Take.there)) (by rw [hstep, hst]) ?_
                                 refine Z.j_cast (A := Z.MapP pb (Value.int .u64) (Value.int .i64) s.pm) (B := Z.MapP pb (Value.int .u64) (Value.int .i64) (es os most idle abs (i + 1)).pm) (by repeat (first | with_reducible exact Z.Take.here | apply Z.Take.there)) (by rw [hstep, hst]) ?_)
                              | (have hst := step_e (s := s) (o := o) (by omega) hc116 (by rw [hN]; exact hc92)
                                 rw [hN] at hst
                                 refine Z.j_cast (A := TabP tb (s.t.useT o.t N)) (B := TabP tb (es os most idle abs (i + 1)).t) (by repeat (first | with_reducible exact Z.Take.here | apply Z.Take.there)) (by rw [hstep, hst]) ?_
                                 refine Z.j_cast (A := Z.MapP bb (Value.int .u64) (Value.int .i64) (Z.mdel o.t s.bm)) (B := Z.MapP bb (Value.int .u64) (Value.int .i64) (es os most idle abs (i + 1)).bm) (by repeat (first | with_reducible exact Z.Take.here | apply Z.Take.there)) (by rw [hstep, hst]) ?_
                                 refine Z.j_cast (A := Z.MapP pb (Value.int .u64) (Value.int .i64) s.pm) (B := Z.MapP pb (Value.int .u64) (Value.int .i64) (es os most idle abs (i + 1)).pm) (by repeat (first | with_reducible exact Z.Take.here | apply Z.Take.there)) (by rw [hstep, hst]) ?_)
                              refine Z.j_region ?_
                              refine Z.s_val (Z.pv_move rfl) ?_
                              refine Z.s_callD rfl rfl rfl isFn13 (by repeat (first | with_reducible exact Z.Takes.nil | (apply Z.Takes.cons; (repeat (first | with_reducible exact Z.Take.here | apply Z.Take.there))))) (by repeat (first | exact Z.App.nil | apply Z.App.cons)) (len_spec _ tb (es os most idle abs (i + 1)).t) ?_
                              refine Z.s_val (Z.pv_move rfl) ?_
                              refine Z.s_val (Z.pv_gtr rfl rfl) ?_
                              refine Z.j_nil ?_
                              refine Z.j_then ?_
                              refine Z.j_cond rfl (fun hc128 => ?_) (fun hc128 => ?_)
                              · try (with_reducible first | replace hc128 := of_decide_eq_true hc128 | replace hc128 := of_decide_eq_false hc128 | replace hc128 := Z.nd_true hc128 | replace hc128 := Z.nd_false hc128 | replace hc128 := Z.nn_true hc128 | replace hc128 := Z.nn_false hc128 | replace hc128 := Z.nb_true hc128 | replace hc128 := Z.nb_false hc128)
                                have := hEI2.len; omega
                              · try (with_reducible first | replace hc128 := of_decide_eq_true hc128 | replace hc128 := of_decide_eq_false hc128 | replace hc128 := Z.nd_true hc128 | replace hc128 := Z.nd_false hc128 | replace hc128 := Z.nn_true hc128 | replace hc128 := Z.nn_false hc128 | replace hc128 := Z.nb_true hc128 | replace hc128 := Z.nb_false hc128)
                                first
                                | (exfalso; first | (cases hc128; done) | omega)
                                | skip
                                  refine Z.j_skip ?_
                                  refine Z.j_blk ?_
                                  refine Z.j_then ?_
                                  refine Z.j_region ?_
                                  refine Z.s_val (Z.pv_add rfl rfl (by first | exact IntWalk.i64_in _ (by omega) | rfl)) ?_
                                  refine Z.s_val (Z.pv_move rfl) ?_
                                  refine Z.j_nil ?_
                                  refine Z.j_then ?_
                                  refine Z.s_is 13 rfl (show _ = Value.int .i64 (es os most idle abs (i + 1)).now from by rw [hstep, step_now, hN]) ?_
                                  (refine Z.j_nextG (X := { x : (Nat) // (x) ≤ n1 }) (EE := (fun (x : { x : (Nat) // (x) ≤ n1 }) => [(0, .int .i64 most), (1, .int .i64 idle), (2, .int .i64 abs), (3, .slice p1 n1 cap1), (9, .pointer (some ⟨tb, 0, none⟩)), (11, .map (some bb)), (12, .map (some pb)), (13, .int .i64 (es os most idle abs (x.1)).now), (42, .slice p1 n1 cap1), (43, .int .i64 n1), (44, .int .i64 ((x.1) : Nat))])) (LL := (fun (x : { x : (Nat) // (x) ≤ n1 }) => [TabP tb (es os most idle abs (x.1)).t, Z.MapP bb (Value.int .u64) (Value.int .i64) (es os most idle abs (x.1)).bm, Z.MapP pb (Value.int .u64) (Value.int .i64) (es os most idle abs (x.1)).pm])) (μ := (fun (x : { x : (Nat) // (x) ≤ n1 }) => n1 - (x.1))) (x := ⟨(i), hinv⟩) ⟨(i + 1), by omega⟩ ?_ ?_ ?_; (show n1 - (i + 1) < n1 - i; omega); (exact (by repeat (first | exact trivial | refine ⟨rfl, ?_⟩))); (exact Z.st_td (by repeat (first | with_reducible exact Z.Takes.nil | (apply Z.Takes.cons; (repeat (first | with_reducible exact Z.Take.here | apply Z.Take.there))))) (by repeat (first | with_reducible exact Z.Drop.nil | apply Z.Drop.cons))))
                      · try (with_reducible first | replace hc96 := of_decide_eq_true hc96 | replace hc96 := of_decide_eq_false hc96 | replace hc96 := Z.nd_true hc96 | replace hc96 := Z.nd_false hc96 | replace hc96 := Z.nn_true hc96 | replace hc96 := Z.nn_false hc96 | replace hc96 := Z.nb_true hc96 | replace hc96 := Z.nb_false hc96)
                        first
                        | (exfalso; first | (cases hc96; done) | omega)
                        | skip
                          refine Z.j_seq ?_
                          refine Z.j_region ?_
                          refine Z.s_val (Z.pv_eql rfl rfl) ?_
                          refine Z.s_val (Z.pv_assign rfl) ?_
                          refine Z.j_nil ?_
                          refine Z.j_then ?_
                          refine Z.j_cond rfl (fun hc116 => ?_) (fun hc116 => ?_)
                          · try (with_reducible first | replace hc116 := of_decide_eq_true hc116 | replace hc116 := of_decide_eq_false hc116 | replace hc116 := Z.nd_true hc116 | replace hc116 := Z.nd_false hc116 | replace hc116 := Z.nn_true hc116 | replace hc116 := Z.nn_false hc116 | replace hc116 := Z.nb_true hc116 | replace hc116 := Z.nb_false hc116)
                            first
                            | (exfalso; first | (cases hc116; done) | omega)
                            | skip
                              refine Z.j_seq ?_
                              refine Z.j_region ?_
                              refine Z.s_val (Z.pv_move rfl) ?_
                              refine Z.s_val (Z.pv_fieldAddr (o' := 2) rfl Try.underlying33 rfl Try.sizeOf31 rfl) ?_
                              refine Z.s_val (Z.pv_load1 rfl (by repeat (first | with_reducible exact Z.Take.here | apply Z.Take.there)) Try.isAgg31 (by rfl)) ?_
                              refine Z.s_callD rfl rfl rfl isFn11 (by repeat (first | with_reducible exact Z.Takes.nil | (apply Z.Takes.cons; (repeat (first | with_reducible exact Z.Take.here | apply Z.Take.there))))) (by repeat (first | exact Z.App.nil | apply Z.App.cons)) (close_spec _ tb s.t o.t) ?_
                              refine Z.j_nil ?_
                              refine Z.j_then ?_
                              refine Z.j_region ?_
                              refine Z.s_val (Z.pv_move rfl) ?_
                              refine Z.s_val (Z.pv_fieldAddr (o' := 2) rfl Try.underlying33 rfl Try.sizeOf31 rfl) ?_
                              refine Z.s_val (Z.pv_load1 rfl (by repeat (first | with_reducible exact Z.Take.here | apply Z.Take.there)) Try.isAgg31 (by rfl)) ?_
                              refine Z.s_delete0 (k := o.t) rfl rfl Try.underlying29 kU64 (by repeat (first | with_reducible exact Z.Take.here | apply Z.Take.there)) ?_
                              refine Z.j_nil ?_
                              refine Z.j_blk ?_
                              refine Z.j_then ?_
                              refine Z.j_seq ?_
                              first
                              | (have hst := step_a (s := s) (o := o) (by omega) (by rw [hN]; exact hc106)
                                 rw [hN] at hst
                                 refine Z.j_cast (A := TabP tb (s.t.openT o.p o.t N)) (B := TabP tb (es os most idle abs (i + 1)).t) (by repeat (first | with_reducible exact Z.Take.here | apply Z.Take.there)) (by rw [hstep, hst]) ?_
                                 refine Z.j_cast (A := Z.MapP bb (Value.int .u64) (Value.int .i64) (Z.mput o.t N s.bm)) (B := Z.MapP bb (Value.int .u64) (Value.int .i64) (es os most idle abs (i + 1)).bm) (by repeat (first | with_reducible exact Z.Take.here | apply Z.Take.there)) (by rw [hstep, hst]) ?_
                                 refine Z.j_cast (A := Z.MapP pb (Value.int .u64) (Value.int .i64) (Z.mput o.t o.p s.pm)) (B := Z.MapP pb (Value.int .u64) (Value.int .i64) (es os most idle abs (i + 1)).pm) (by repeat (first | with_reducible exact Z.Take.here | apply Z.Take.there)) (by rw [hstep, hst]) ?_)
                              | (have hst := step_b (s := s) (o := o) (by omega) (by rw [hN]; exact hc106)
                                 rw [hN] at hst
                                 refine Z.j_cast (A := TabP tb (s.t.openT o.p o.t N)) (B := TabP tb (es os most idle abs (i + 1)).t) (by repeat (first | with_reducible exact Z.Take.here | apply Z.Take.there)) (by rw [hstep, hst]) ?_
                                 refine Z.j_cast (A := Z.MapP bb (Value.int .u64) (Value.int .i64) s.bm) (B := Z.MapP bb (Value.int .u64) (Value.int .i64) (es os most idle abs (i + 1)).bm) (by repeat (first | with_reducible exact Z.Take.here | apply Z.Take.there)) (by rw [hstep, hst]) ?_
                                 refine Z.j_cast (A := Z.MapP pb (Value.int .u64) (Value.int .i64) s.pm) (B := Z.MapP pb (Value.int .u64) (Value.int .i64) (es os most idle abs (i + 1)).pm) (by repeat (first | with_reducible exact Z.Take.here | apply Z.Take.there)) (by rw [hstep, hst]) ?_)
                              | (have hst := step_c (s := s) (o := o) (by omega) hc116
                                 rw [hN] at hst
                                 refine Z.j_cast (A := TabP tb (s.t.close o.t)) (B := TabP tb (es os most idle abs (i + 1)).t) (by repeat (first | with_reducible exact Z.Take.here | apply Z.Take.there)) (by rw [hstep, hst]) ?_
                                 refine Z.j_cast (A := Z.MapP bb (Value.int .u64) (Value.int .i64) (Z.mdel o.t s.bm)) (B := Z.MapP bb (Value.int .u64) (Value.int .i64) (es os most idle abs (i + 1)).bm) (by repeat (first | with_reducible exact Z.Take.here | apply Z.Take.there)) (by rw [hstep, hst]) ?_
                                 refine Z.j_cast (A := Z.MapP pb (Value.int .u64) (Value.int .i64) s.pm) (B := Z.MapP pb (Value.int .u64) (Value.int .i64) (es os most idle abs (i + 1)).pm) (by repeat (first | with_reducible exact Z.Take.here | apply Z.Take.there)) (by rw [hstep, hst]) ?_)
                              | (have hst := step_d (s := s) (o := o) (by omega) hc116 (by rw [hN]; exact hc92)
                                 rw [hN] at hst
                                 refine Z.j_cast (A := TabP tb (s.t.useT o.t N)) (B := TabP tb (es os most idle abs (i + 1)).t) (by repeat (first | with_reducible exact Z.Take.here | apply Z.Take.there)) (by rw [hstep, hst]) ?_
                                 refine Z.j_cast (A := Z.MapP bb (Value.int .u64) (Value.int .i64) s.bm) (B := Z.MapP bb (Value.int .u64) (Value.int .i64) (es os most idle abs (i + 1)).bm) (by repeat (first | with_reducible exact Z.Take.here | apply Z.Take.there)) (by rw [hstep, hst]) ?_
                                 refine Z.j_cast (A := Z.MapP pb (Value.int .u64) (Value.int .i64) s.pm) (B := Z.MapP pb (Value.int .u64) (Value.int .i64) (es os most idle abs (i + 1)).pm) (by repeat (first | with_reducible exact Z.Take.here | apply Z.Take.there)) (by rw [hstep, hst]) ?_)
                              | (have hst := step_e (s := s) (o := o) (by omega) hc116 (by rw [hN]; exact hc92)
                                 rw [hN] at hst
                                 refine Z.j_cast (A := TabP tb (s.t.useT o.t N)) (B := TabP tb (es os most idle abs (i + 1)).t) (by repeat (first | with_reducible exact Z.Take.here | apply Z.Take.there)) (by rw [hstep, hst]) ?_
                                 refine Z.j_cast (A := Z.MapP bb (Value.int .u64) (Value.int .i64) (Z.mdel o.t s.bm)) (B := Z.MapP bb (Value.int .u64) (Value.int .i64) (es os most idle abs (i + 1)).bm) (by repeat (first | with_reducible exact Z.Take.here | apply Z.Take.there)) (by rw [hstep, hst]) ?_
                                 refine Z.j_cast (A := Z.MapP pb (Value.int .u64) (Value.int .i64) s.pm) (B := Z.MapP pb (Value.int .u64) (Value.int .i64) (es os most idle abs (i + 1)).pm) (by repeat (first | with_reducible exact Z.Take.here | apply Z.Take.there)) (by rw [hstep, hst]) ?_)
                              refine Z.j_region ?_
                              refine Z.s_val (Z.pv_move rfl) ?_
                              refine Z.s_callD rfl rfl rfl isFn13 (by repeat (first | with_reducible exact Z.Takes.nil | (apply Z.Takes.cons; (repeat (first | with_reducible exact Z.Take.here | apply Z.Take.there))))) (by repeat (first | exact Z.App.nil | apply Z.App.cons)) (len_spec _ tb (es os most idle abs (i + 1)).t) ?_
                              refine Z.s_val (Z.pv_move rfl) ?_
                              refine Z.s_val (Z.pv_gtr rfl rfl) ?_
                              refine Z.j_nil ?_
                              refine Z.j_then ?_
                              refine Z.j_cond rfl (fun hc128 => ?_) (fun hc128 => ?_)
                              · try (with_reducible first | replace hc128 := of_decide_eq_true hc128 | replace hc128 := of_decide_eq_false hc128 | replace hc128 := Z.nd_true hc128 | replace hc128 := Z.nd_false hc128 | replace hc128 := Z.nn_true hc128 | replace hc128 := Z.nn_false hc128 | replace hc128 := Z.nb_true hc128 | replace hc128 := Z.nb_false hc128)
                                have := hEI2.len; omega
                              · try (with_reducible first | replace hc128 := of_decide_eq_true hc128 | replace hc128 := of_decide_eq_false hc128 | replace hc128 := Z.nd_true hc128 | replace hc128 := Z.nd_false hc128 | replace hc128 := Z.nn_true hc128 | replace hc128 := Z.nn_false hc128 | replace hc128 := Z.nb_true hc128 | replace hc128 := Z.nb_false hc128)
                                first
                                | (exfalso; first | (cases hc128; done) | omega)
                                | skip
                                  refine Z.j_skip ?_
                                  refine Z.j_blk ?_
                                  refine Z.j_then ?_
                                  refine Z.j_region ?_
                                  refine Z.s_val (Z.pv_add rfl rfl (by first | exact IntWalk.i64_in _ (by omega) | rfl)) ?_
                                  refine Z.s_val (Z.pv_move rfl) ?_
                                  refine Z.j_nil ?_
                                  refine Z.j_then ?_
                                  refine Z.s_is 13 rfl (show _ = Value.int .i64 (es os most idle abs (i + 1)).now from by rw [hstep, step_now, hN]) ?_
                                  (refine Z.j_nextG (X := { x : (Nat) // (x) ≤ n1 }) (EE := (fun (x : { x : (Nat) // (x) ≤ n1 }) => [(0, .int .i64 most), (1, .int .i64 idle), (2, .int .i64 abs), (3, .slice p1 n1 cap1), (9, .pointer (some ⟨tb, 0, none⟩)), (11, .map (some bb)), (12, .map (some pb)), (13, .int .i64 (es os most idle abs (x.1)).now), (42, .slice p1 n1 cap1), (43, .int .i64 n1), (44, .int .i64 ((x.1) : Nat))])) (LL := (fun (x : { x : (Nat) // (x) ≤ n1 }) => [TabP tb (es os most idle abs (x.1)).t, Z.MapP bb (Value.int .u64) (Value.int .i64) (es os most idle abs (x.1)).bm, Z.MapP pb (Value.int .u64) (Value.int .i64) (es os most idle abs (x.1)).pm])) (μ := (fun (x : { x : (Nat) // (x) ≤ n1 }) => n1 - (x.1))) (x := ⟨(i), hinv⟩) ⟨(i + 1), by omega⟩ ?_ ?_ ?_; (show n1 - (i + 1) < n1 - i; omega); (exact (by repeat (first | exact trivial | refine ⟨rfl, ?_⟩))); (exact Z.st_td (by repeat (first | with_reducible exact Z.Takes.nil | (apply Z.Takes.cons; (repeat (first | with_reducible exact Z.Take.here | apply Z.Take.there))))) (by repeat (first | with_reducible exact Z.Drop.nil | apply Z.Drop.cons))))
                          · try (with_reducible first | replace hc116 := of_decide_eq_true hc116 | replace hc116 := of_decide_eq_false hc116 | replace hc116 := Z.nd_true hc116 | replace hc116 := Z.nd_false hc116 | replace hc116 := Z.nn_true hc116 | replace hc116 := Z.nn_false hc116 | replace hc116 := Z.nb_true hc116 | replace hc116 := Z.nb_false hc116)
                            first
                            | (exfalso; first | (cases hc116; done) | omega)
                            | skip
                              refine Z.j_seq ?_
                              refine Z.j_region ?_
                              refine Z.s_val (Z.pv_move rfl) ?_
                              refine Z.s_val (Z.pv_fieldAddr (o' := 2) rfl Try.underlying33 rfl Try.sizeOf31 rfl) ?_
                              refine Z.s_val (Z.pv_load1 rfl (by repeat (first | with_reducible exact Z.Take.here | apply Z.Take.there)) Try.isAgg31 (by rfl)) ?_
                              refine Z.s_val (Z.pv_move rfl) ?_
                              refine Z.s_callD rfl rfl rfl isFn12 (by repeat (first | with_reducible exact Z.Takes.nil | (apply Z.Takes.cons; (repeat (first | with_reducible exact Z.Take.here | apply Z.Take.there))))) (by repeat (first | exact Z.App.nil | apply Z.App.cons)) (use_spec _ tb s.t o.t N) ?_
                              refine Z.s_val (Z.pv_move rfl) ?_
                              refine Z.s_val (Z.pv_extract rfl rfl) ?_
                              refine Z.s_val (Z.pv_extract rfl rfl) ?_
                              refine Z.s_val (Z.pv_assign rfl) ?_
                              refine Z.s_val (Z.pv_assign rfl) ?_
                              refine Z.j_nil ?_
                              refine Z.j_then ?_
                              refine Z.j_seq ?_
                              refine Z.j_region ?_
                              refine Z.s_val (Z.pv_move rfl) ?_
                              refine Z.s_val (Z.pv_fieldAddr (o' := 2) rfl Try.underlying33 rfl Try.sizeOf31 rfl) ?_
                              refine Z.s_val (Z.pv_load1 rfl (by repeat (first | with_reducible exact Z.Take.here | apply Z.Take.there)) Try.isAgg31 (by rfl)) ?_
                              refine Z.s_val (Z.pv_lookupOkZ (k := o.t) (venc := Value.int .i64) (m := s.bm) 0 rfl rfl Try.underlying29 kU64 Try.zeroValue2 (by repeat (first | with_reducible exact Z.Take.here | apply Z.Take.there))) ?_
                              refine Z.s_val (Z.pv_move rfl) ?_
                              refine Z.s_val (Z.pv_extract rfl rfl) ?_
                              refine Z.s_val (Z.pv_extract rfl rfl) ?_
                              refine Z.s_val (Z.pv_assign rfl) ?_
                              refine Z.s_val (Z.pv_assign rfl) ?_
                              refine Z.j_nil ?_
                              refine Z.j_then ?_
                              refine Z.j_seq ?_
                              refine Z.j_seq ?_
                              refine Z.j_region ?_
                              refine Z.s_val (Z.pv_move rfl) ?_
                              refine Z.s_val (Z.pv_eql rfl rfl) ?_
                              refine Z.s_val (Z.pv_move rfl) ?_
                              refine Z.s_split 72 rfl (fun hg72 => ?_) (fun hg72 => ?_)
                              · try (with_reducible first | replace hg72 := of_decide_eq_true hg72 | replace hg72 := of_decide_eq_false hg72 | replace hg72 := Z.nd_true hg72 | replace hg72 := Z.nd_false hg72 | replace hg72 := Z.nn_true hg72 | replace hg72 := Z.nn_false hg72 | replace hg72 := Z.nb_true hg72 | replace hg72 := Z.nb_false hg72)
                                first
                                | (exfalso; first | (cases hg72; done) | omega)
                                | skip
                                  refine Z.s_val (Z.pv_move rfl) ?_
                                  refine Z.s_val (Z.pv_not rfl) ?_
                                  refine Z.s_val (Z.pv_move rfl) ?_
                                  refine Z.s_is 75 rfl (show _ = Value.bool false from (by rw [(hU hg72).1]; rfl)) ?_
                                  refine Z.s_val (Z.pv_move rfl) ?_
                                  refine Z.s_val (Z.pv_move rfl) ?_
                                  refine Z.s_val (Z.pv_fieldAddr (o' := 2) rfl Try.underlying33 rfl Try.sizeOf31 rfl) ?_
                                  refine Z.s_val (Z.pv_load1 rfl (by repeat (first | with_reducible exact Z.Take.here | apply Z.Take.there)) Try.isAgg31 (by rfl)) ?_
                                  refine Z.s_val (Z.pv_lookupZ (k := o.t) (venc := Value.int .i64) (m := s.pm) 0 rfl rfl Try.underlying30 kU64 Try.zeroValue3 (by repeat (first | with_reducible exact Z.Take.here | apply Z.Take.there))) ?_
                                  refine Z.s_val (Z.pv_neq rfl rfl) ?_
                                  refine Z.s_val (Z.pv_pick rfl rfl) ?_
                                  refine Z.s_val (Z.pv_move rfl) ?_
                                  refine Z.s_is 83 rfl (show _ = Value.bool false from (by rw [decide_eq_true (hU hg72).2.1]; rfl)) ?_
                                  refine Z.s_val (Z.pv_move rfl) ?_
                                  refine Z.s_val (Z.pv_move rfl) ?_
                                  refine Z.s_val (Z.pv_sub rfl rfl (by first | exact IntWalk.i64_in _ (by omega) | rfl)) ?_
                                  refine Z.s_val (Z.pv_move rfl) ?_
                                  refine Z.s_val (Z.pv_geq rfl rfl) ?_
                                  refine Z.s_val (Z.pv_pick rfl rfl) ?_
                                  refine Z.s_val (Z.pv_pick rfl rfl) ?_
                                  refine Z.j_nil ?_
                                  refine Z.j_then ?_
                                  refine Z.j_cond rfl (fun hc90 => ?_) (fun hc90 => ?_)
                                  · try (with_reducible first | replace hc90 := of_decide_eq_true hc90 | replace hc90 := of_decide_eq_false hc90 | replace hc90 := Z.nd_true hc90 | replace hc90 := Z.nd_false hc90 | replace hc90 := Z.nn_true hc90 | replace hc90 := Z.nn_false hc90 | replace hc90 := Z.nb_true hc90 | replace hc90 := Z.nb_false hc90)
                                    exfalso
                                    first
                                    | (cases hc90; done)
                                    | exact (hU hg72).2.2 hc90
                                  · try (with_reducible first | replace hc90 := of_decide_eq_true hc90 | replace hc90 := of_decide_eq_false hc90 | replace hc90 := Z.nd_true hc90 | replace hc90 := Z.nd_false hc90 | replace hc90 := Z.nn_true hc90 | replace hc90 := Z.nn_false hc90 | replace hc90 := Z.nb_true hc90 | replace hc90 := Z.nb_false hc90)
                                    first
                                    | (exfalso; first | (cases hc90; done) | omega)
                                    | skip
                                      refine Z.j_skip ?_
                                      refine Z.j_then ?_
                                      refine Z.j_seq ?_
                                      refine Z.j_region ?_
                                      refine Z.s_val (Z.pv_move rfl) ?_
                                      refine Z.s_val (Z.pv_neq rfl rfl) ?_
                                      refine Z.j_nil ?_
                                      refine Z.j_then ?_
                                      refine Z.j_cond rfl (fun hc92 => ?_) (fun hc92 => ?_)
                                      · try (with_reducible first | replace hc92 := of_decide_eq_true hc92 | replace hc92 := of_decide_eq_false hc92 | replace hc92 := Z.nd_true hc92 | replace hc92 := Z.nd_false hc92 | replace hc92 := Z.nn_true hc92 | replace hc92 := Z.nn_false hc92 | replace hc92 := Z.nb_true hc92 | replace hc92 := Z.nb_false hc92)
                                        first
                                        | (exfalso; first | (cases hc92; done) | omega)
                                        | skip
                                          refine Z.j_region ?_
                                          refine Z.s_val (Z.pv_move rfl) ?_
                                          refine Z.s_val (Z.pv_fieldAddr (o' := 2) rfl Try.underlying33 rfl Try.sizeOf31 rfl) ?_
                                          refine Z.s_val (Z.pv_load1 rfl (by repeat (first | with_reducible exact Z.Take.here | apply Z.Take.there)) Try.isAgg31 (by rfl)) ?_
                                          refine Z.s_delete0 (k := o.t) rfl rfl Try.underlying29 kU64 (by repeat (first | with_reducible exact Z.Take.here | apply Z.Take.there)) ?_
                                          refine Z.j_nil ?_
                                          refine Z.j_blk ?_
                                          refine Z.j_then ?_
                                          refine Z.j_seq ?_
                                          first
                                          | (have hst := step_a (s := s) (o := o) (by omega) (by rw [hN]; exact hc106)
                                             rw [hN] at hst
                                             refine Z.j_cast (A := TabP tb (s.t.openT o.p o.t N)) (B := TabP tb (es os most idle abs (i + 1)).t) (by repeat (first | with_reducible exact Z.Take.here | apply Z.Take.there)) (by rw [hstep, hst]) ?_
                                             refine Z.j_cast (A := Z.MapP bb (Value.int .u64) (Value.int .i64) (Z.mput o.t N s.bm)) (B := Z.MapP bb (Value.int .u64) (Value.int .i64) (es os most idle abs (i + 1)).bm) (by repeat (first | with_reducible exact Z.Take.here | apply Z.Take.there)) (by rw [hstep, hst]) ?_
                                             refine Z.j_cast (A := Z.MapP pb (Value.int .u64) (Value.int .i64) (Z.mput o.t o.p s.pm)) (B := Z.MapP pb (Value.int .u64) (Value.int .i64) (es os most idle abs (i + 1)).pm) (by repeat (first | with_reducible exact Z.Take.here | apply Z.Take.there)) (by rw [hstep, hst]) ?_)
                                          | (have hst := step_b (s := s) (o := o) (by omega) (by rw [hN]; exact hc106)
                                             rw [hN] at hst
                                             refine Z.j_cast (A := TabP tb (s.t.openT o.p o.t N)) (B := TabP tb (es os most idle abs (i + 1)).t) (by repeat (first | with_reducible exact Z.Take.here | apply Z.Take.there)) (by rw [hstep, hst]) ?_
                                             refine Z.j_cast (A := Z.MapP bb (Value.int .u64) (Value.int .i64) s.bm) (B := Z.MapP bb (Value.int .u64) (Value.int .i64) (es os most idle abs (i + 1)).bm) (by repeat (first | with_reducible exact Z.Take.here | apply Z.Take.there)) (by rw [hstep, hst]) ?_
                                             refine Z.j_cast (A := Z.MapP pb (Value.int .u64) (Value.int .i64) s.pm) (B := Z.MapP pb (Value.int .u64) (Value.int .i64) (es os most idle abs (i + 1)).pm) (by repeat (first | with_reducible exact Z.Take.here | apply Z.Take.there)) (by rw [hstep, hst]) ?_)
                                          | (have hst := step_c (s := s) (o := o) (by omega) hc116
                                             rw [hN] at hst
                                             refine Z.j_cast (A := TabP tb (s.t.close o.t)) (B := TabP tb (es os most idle abs (i + 1)).t) (by repeat (first | with_reducible exact Z.Take.here | apply Z.Take.there)) (by rw [hstep, hst]) ?_
                                             refine Z.j_cast (A := Z.MapP bb (Value.int .u64) (Value.int .i64) (Z.mdel o.t s.bm)) (B := Z.MapP bb (Value.int .u64) (Value.int .i64) (es os most idle abs (i + 1)).bm) (by repeat (first | with_reducible exact Z.Take.here | apply Z.Take.there)) (by rw [hstep, hst]) ?_
                                             refine Z.j_cast (A := Z.MapP pb (Value.int .u64) (Value.int .i64) s.pm) (B := Z.MapP pb (Value.int .u64) (Value.int .i64) (es os most idle abs (i + 1)).pm) (by repeat (first | with_reducible exact Z.Take.here | apply Z.Take.there)) (by rw [hstep, hst]) ?_)
                                          | (have hst := step_d (s := s) (o := o) (by omega) hc116 (by rw [hN]; exact hc92)
                                             rw [hN] at hst
                                             refine Z.j_cast (A := TabP tb (s.t.useT o.t N)) (B := TabP tb (es os most idle abs (i + 1)).t) (by repeat (first | with_reducible exact Z.Take.here | apply Z.Take.there)) (by rw [hstep, hst]) ?_
                                             refine Z.j_cast (A := Z.MapP bb (Value.int .u64) (Value.int .i64) s.bm) (B := Z.MapP bb (Value.int .u64) (Value.int .i64) (es os most idle abs (i + 1)).bm) (by repeat (first | with_reducible exact Z.Take.here | apply Z.Take.there)) (by rw [hstep, hst]) ?_
                                             refine Z.j_cast (A := Z.MapP pb (Value.int .u64) (Value.int .i64) s.pm) (B := Z.MapP pb (Value.int .u64) (Value.int .i64) (es os most idle abs (i + 1)).pm) (by repeat (first | with_reducible exact Z.Take.here | apply Z.Take.there)) (by rw [hstep, hst]) ?_)
                                          | (have hst := step_e (s := s) (o := o) (by omega) hc116 (by rw [hN]; exact hc92)
                                             rw [hN] at hst
                                             refine Z.j_cast (A := TabP tb (s.t.useT o.t N)) (B := TabP tb (es os most idle abs (i + 1)).t) (by repeat (first | with_reducible exact Z.Take.here | apply Z.Take.there)) (by rw [hstep, hst]) ?_
                                             refine Z.j_cast (A := Z.MapP bb (Value.int .u64) (Value.int .i64) (Z.mdel o.t s.bm)) (B := Z.MapP bb (Value.int .u64) (Value.int .i64) (es os most idle abs (i + 1)).bm) (by repeat (first | with_reducible exact Z.Take.here | apply Z.Take.there)) (by rw [hstep, hst]) ?_
                                             refine Z.j_cast (A := Z.MapP pb (Value.int .u64) (Value.int .i64) s.pm) (B := Z.MapP pb (Value.int .u64) (Value.int .i64) (es os most idle abs (i + 1)).pm) (by repeat (first | with_reducible exact Z.Take.here | apply Z.Take.there)) (by rw [hstep, hst]) ?_)
                                          refine Z.j_region ?_
                                          refine Z.s_val (Z.pv_move rfl) ?_
                                          refine Z.s_callD rfl rfl rfl isFn13 (by repeat (first | with_reducible exact Z.Takes.nil | (apply Z.Takes.cons; (repeat (first | with_reducible exact Z.Take.here | apply Z.Take.there))))) (by repeat (first | exact Z.App.nil | apply Z.App.cons)) (len_spec _ tb (es os most idle abs (i + 1)).t) ?_
                                          refine Z.s_val (Z.pv_move rfl) ?_
                                          refine Z.s_val (Z.pv_gtr rfl rfl) ?_
                                          refine Z.j_nil ?_
                                          refine Z.j_then ?_
                                          refine Z.j_cond rfl (fun hc128 => ?_) (fun hc128 => ?_)
                                          · try (with_reducible first | replace hc128 := of_decide_eq_true hc128 | replace hc128 := of_decide_eq_false hc128 | replace hc128 := Z.nd_true hc128 | replace hc128 := Z.nd_false hc128 | replace hc128 := Z.nn_true hc128 | replace hc128 := Z.nn_false hc128 | replace hc128 := Z.nb_true hc128 | replace hc128 := Z.nb_false hc128)
                                            have := hEI2.len; omega
                                          · try (with_reducible first | replace hc128 := of_decide_eq_true hc128 | replace hc128 := of_decide_eq_false hc128 | replace hc128 := Z.nd_true hc128 | replace hc128 := Z.nd_false hc128 | replace hc128 := Z.nn_true hc128 | replace hc128 := Z.nn_false hc128 | replace hc128 := Z.nb_true hc128 | replace hc128 := Z.nb_false hc128)
                                            first
                                            | (exfalso; first | (cases hc128; done) | omega)
                                            | skip
                                              refine Z.j_skip ?_
                                              refine Z.j_blk ?_
                                              refine Z.j_then ?_
                                              refine Z.j_region ?_
                                              refine Z.s_val (Z.pv_add rfl rfl (by first | exact IntWalk.i64_in _ (by omega) | rfl)) ?_
                                              refine Z.s_val (Z.pv_move rfl) ?_
                                              refine Z.j_nil ?_
                                              refine Z.j_then ?_
                                              refine Z.s_is 13 rfl (show _ = Value.int .i64 (es os most idle abs (i + 1)).now from by rw [hstep, step_now, hN]) ?_
                                              (refine Z.j_nextG (X := { x : (Nat) // (x) ≤ n1 }) (EE := (fun (x : { x : (Nat) // (x) ≤ n1 }) => [(0, .int .i64 most), (1, .int .i64 idle), (2, .int .i64 abs), (3, .slice p1 n1 cap1), (9, .pointer (some ⟨tb, 0, none⟩)), (11, .map (some bb)), (12, .map (some pb)), (13, .int .i64 (es os most idle abs (x.1)).now), (42, .slice p1 n1 cap1), (43, .int .i64 n1), (44, .int .i64 ((x.1) : Nat))])) (LL := (fun (x : { x : (Nat) // (x) ≤ n1 }) => [TabP tb (es os most idle abs (x.1)).t, Z.MapP bb (Value.int .u64) (Value.int .i64) (es os most idle abs (x.1)).bm, Z.MapP pb (Value.int .u64) (Value.int .i64) (es os most idle abs (x.1)).pm])) (μ := (fun (x : { x : (Nat) // (x) ≤ n1 }) => n1 - (x.1))) (x := ⟨(i), hinv⟩) ⟨(i + 1), by omega⟩ ?_ ?_ ?_; (show n1 - (i + 1) < n1 - i; omega); (exact (by repeat (first | exact trivial | refine ⟨rfl, ?_⟩))); (exact Z.st_td (by repeat (first | with_reducible exact Z.Takes.nil | (apply Z.Takes.cons; (repeat (first | with_reducible exact Z.Take.here | apply Z.Take.there))))) (by repeat (first | with_reducible exact Z.Drop.nil | apply Z.Drop.cons))))
                                      · try (with_reducible first | replace hc92 := of_decide_eq_true hc92 | replace hc92 := of_decide_eq_false hc92 | replace hc92 := Z.nd_true hc92 | replace hc92 := Z.nd_false hc92 | replace hc92 := Z.nn_true hc92 | replace hc92 := Z.nn_false hc92 | replace hc92 := Z.nb_true hc92 | replace hc92 := Z.nb_false hc92)
                                        first
                                        | (exfalso; first | (cases hc92; done) | omega)
                                        | skip
                                          refine Z.j_skip ?_
                                          refine Z.j_blk ?_
                                          refine Z.j_then ?_
                                          refine Z.j_seq ?_
                                          first
                                          | (have hst := step_a (s := s) (o := o) (by omega) (by rw [hN]; exact hc106)
                                             rw [hN] at hst
                                             refine Z.j_cast (A := TabP tb (s.t.openT o.p o.t N)) (B := TabP tb (es os most idle abs (i + 1)).t) (by repeat (first | with_reducible exact Z.Take.here | apply Z.Take.there)) (by rw [hstep, hst]) ?_
                                             refine Z.j_cast (A := Z.MapP bb (Value.int .u64) (Value.int .i64) (Z.mput o.t N s.bm)) (B := Z.MapP bb (Value.int .u64) (Value.int .i64) (es os most idle abs (i + 1)).bm) (by repeat (first | with_reducible exact Z.Take.here | apply Z.Take.there)) (by rw [hstep, hst]) ?_
                                             refine Z.j_cast (A := Z.MapP pb (Value.int .u64) (Value.int .i64) (Z.mput o.t o.p s.pm)) (B := Z.MapP pb (Value.int .u64) (Value.int .i64) (es os most idle abs (i + 1)).pm) (by repeat (first | with_reducible exact Z.Take.here | apply Z.Take.there)) (by rw [hstep, hst]) ?_)
                                          | (have hst := step_b (s := s) (o := o) (by omega) (by rw [hN]; exact hc106)
                                             rw [hN] at hst
                                             refine Z.j_cast (A := TabP tb (s.t.openT o.p o.t N)) (B := TabP tb (es os most idle abs (i + 1)).t) (by repeat (first | with_reducible exact Z.Take.here | apply Z.Take.there)) (by rw [hstep, hst]) ?_
                                             refine Z.j_cast (A := Z.MapP bb (Value.int .u64) (Value.int .i64) s.bm) (B := Z.MapP bb (Value.int .u64) (Value.int .i64) (es os most idle abs (i + 1)).bm) (by repeat (first | with_reducible exact Z.Take.here | apply Z.Take.there)) (by rw [hstep, hst]) ?_
                                             refine Z.j_cast (A := Z.MapP pb (Value.int .u64) (Value.int .i64) s.pm) (B := Z.MapP pb (Value.int .u64) (Value.int .i64) (es os most idle abs (i + 1)).pm) (by repeat (first | with_reducible exact Z.Take.here | apply Z.Take.there)) (by rw [hstep, hst]) ?_)
                                          | (have hst := step_c (s := s) (o := o) (by omega) hc116
                                             rw [hN] at hst
                                             refine Z.j_cast (A := TabP tb (s.t.close o.t)) (B := TabP tb (es os most idle abs (i + 1)).t) (by repeat (first | with_reducible exact Z.Take.here | apply Z.Take.there)) (by rw [hstep, hst]) ?_
                                             refine Z.j_cast (A := Z.MapP bb (Value.int .u64) (Value.int .i64) (Z.mdel o.t s.bm)) (B := Z.MapP bb (Value.int .u64) (Value.int .i64) (es os most idle abs (i + 1)).bm) (by repeat (first | with_reducible exact Z.Take.here | apply Z.Take.there)) (by rw [hstep, hst]) ?_
                                             refine Z.j_cast (A := Z.MapP pb (Value.int .u64) (Value.int .i64) s.pm) (B := Z.MapP pb (Value.int .u64) (Value.int .i64) (es os most idle abs (i + 1)).pm) (by repeat (first | with_reducible exact Z.Take.here | apply Z.Take.there)) (by rw [hstep, hst]) ?_)
                                          | (have hst := step_d (s := s) (o := o) (by omega) hc116 (by rw [hN]; exact hc92)
                                             rw [hN] at hst
                                             refine Z.j_cast (A := TabP tb (s.t.useT o.t N)) (B := TabP tb (es os most idle abs (i + 1)).t) (by repeat (first | with_reducible exact Z.Take.here | apply Z.Take.there)) (by rw [hstep, hst]) ?_
                                             refine Z.j_cast (A := Z.MapP bb (Value.int .u64) (Value.int .i64) s.bm) (B := Z.MapP bb (Value.int .u64) (Value.int .i64) (es os most idle abs (i + 1)).bm) (by repeat (first | with_reducible exact Z.Take.here | apply Z.Take.there)) (by rw [hstep, hst]) ?_
                                             refine Z.j_cast (A := Z.MapP pb (Value.int .u64) (Value.int .i64) s.pm) (B := Z.MapP pb (Value.int .u64) (Value.int .i64) (es os most idle abs (i + 1)).pm) (by repeat (first | with_reducible exact Z.Take.here | apply Z.Take.there)) (by rw [hstep, hst]) ?_)
                                          | (have hst := step_e (s := s) (o := o) (by omega) hc116 (by rw [hN]; exact hc92)
                                             rw [hN] at hst
                                             refine Z.j_cast (A := TabP tb (s.t.useT o.t N)) (B := TabP tb (es os most idle abs (i + 1)).t) (by repeat (first | with_reducible exact Z.Take.here | apply Z.Take.there)) (by rw [hstep, hst]) ?_
                                             refine Z.j_cast (A := Z.MapP bb (Value.int .u64) (Value.int .i64) (Z.mdel o.t s.bm)) (B := Z.MapP bb (Value.int .u64) (Value.int .i64) (es os most idle abs (i + 1)).bm) (by repeat (first | with_reducible exact Z.Take.here | apply Z.Take.there)) (by rw [hstep, hst]) ?_
                                             refine Z.j_cast (A := Z.MapP pb (Value.int .u64) (Value.int .i64) s.pm) (B := Z.MapP pb (Value.int .u64) (Value.int .i64) (es os most idle abs (i + 1)).pm) (by repeat (first | with_reducible exact Z.Take.here | apply Z.Take.there)) (by rw [hstep, hst]) ?_)
                                          refine Z.j_region ?_
                                          refine Z.s_val (Z.pv_move rfl) ?_
                                          refine Z.s_callD rfl rfl rfl isFn13 (by repeat (first | with_reducible exact Z.Takes.nil | (apply Z.Takes.cons; (repeat (first | with_reducible exact Z.Take.here | apply Z.Take.there))))) (by repeat (first | exact Z.App.nil | apply Z.App.cons)) (len_spec _ tb (es os most idle abs (i + 1)).t) ?_
                                          refine Z.s_val (Z.pv_move rfl) ?_
                                          refine Z.s_val (Z.pv_gtr rfl rfl) ?_
                                          refine Z.j_nil ?_
                                          refine Z.j_then ?_
                                          refine Z.j_cond rfl (fun hc128 => ?_) (fun hc128 => ?_)
                                          · try (with_reducible first | replace hc128 := of_decide_eq_true hc128 | replace hc128 := of_decide_eq_false hc128 | replace hc128 := Z.nd_true hc128 | replace hc128 := Z.nd_false hc128 | replace hc128 := Z.nn_true hc128 | replace hc128 := Z.nn_false hc128 | replace hc128 := Z.nb_true hc128 | replace hc128 := Z.nb_false hc128)
                                            have := hEI2.len; omega
                                          · try (with_reducible first | replace hc128 := of_decide_eq_true hc128 | replace hc128 := of_decide_eq_false hc128 | replace hc128 := Z.nd_true hc128 | replace hc128 := Z.nd_false hc128 | replace hc128 := Z.nn_true hc128 | replace hc128 := Z.nn_false hc128 | replace hc128 := Z.nb_true hc128 | replace hc128 := Z.nb_false hc128)
                                            first
                                            | (exfalso; first | (cases hc128; done) | omega)
                                            | skip
                                              refine Z.j_skip ?_
                                              refine Z.j_blk ?_
                                              refine Z.j_then ?_
                                              refine Z.j_region ?_
                                              refine Z.s_val (Z.pv_add rfl rfl (by first | exact IntWalk.i64_in _ (by omega) | rfl)) ?_
                                              refine Z.s_val (Z.pv_move rfl) ?_
                                              refine Z.j_nil ?_
                                              refine Z.j_then ?_
                                              refine Z.s_is 13 rfl (show _ = Value.int .i64 (es os most idle abs (i + 1)).now from by rw [hstep, step_now, hN]) ?_
                                              (refine Z.j_nextG (X := { x : (Nat) // (x) ≤ n1 }) (EE := (fun (x : { x : (Nat) // (x) ≤ n1 }) => [(0, .int .i64 most), (1, .int .i64 idle), (2, .int .i64 abs), (3, .slice p1 n1 cap1), (9, .pointer (some ⟨tb, 0, none⟩)), (11, .map (some bb)), (12, .map (some pb)), (13, .int .i64 (es os most idle abs (x.1)).now), (42, .slice p1 n1 cap1), (43, .int .i64 n1), (44, .int .i64 ((x.1) : Nat))])) (LL := (fun (x : { x : (Nat) // (x) ≤ n1 }) => [TabP tb (es os most idle abs (x.1)).t, Z.MapP bb (Value.int .u64) (Value.int .i64) (es os most idle abs (x.1)).bm, Z.MapP pb (Value.int .u64) (Value.int .i64) (es os most idle abs (x.1)).pm])) (μ := (fun (x : { x : (Nat) // (x) ≤ n1 }) => n1 - (x.1))) (x := ⟨(i), hinv⟩) ⟨(i + 1), by omega⟩ ?_ ?_ ?_; (show n1 - (i + 1) < n1 - i; omega); (exact (by repeat (first | exact trivial | refine ⟨rfl, ?_⟩))); (exact Z.st_td (by repeat (first | with_reducible exact Z.Takes.nil | (apply Z.Takes.cons; (repeat (first | with_reducible exact Z.Take.here | apply Z.Take.there))))) (by repeat (first | with_reducible exact Z.Drop.nil | apply Z.Drop.cons))))
                              · try (with_reducible first | replace hg72 := of_decide_eq_true hg72 | replace hg72 := of_decide_eq_false hg72 | replace hg72 := Z.nd_true hg72 | replace hg72 := Z.nd_false hg72 | replace hg72 := Z.nn_true hg72 | replace hg72 := Z.nn_false hg72 | replace hg72 := Z.nb_true hg72 | replace hg72 := Z.nb_false hg72)
                                first
                                | (exfalso; first | (cases hg72; done) | omega)
                                | skip
                                  refine Z.s_skip ?_
                                  refine Z.s_skip ?_
                                  refine Z.s_skip ?_
                                  refine Z.s_skip ?_
                                  refine Z.s_skip ?_
                                  refine Z.s_skip ?_
                                  refine Z.s_skip ?_
                                  refine Z.s_skip ?_
                                  refine Z.s_skip ?_
                                  refine Z.s_skip ?_
                                  refine Z.s_skip ?_
                                  refine Z.s_skip ?_
                                  refine Z.s_skip ?_
                                  refine Z.s_skip ?_
                                  refine Z.s_skip ?_
                                  refine Z.s_skip ?_
                                  refine Z.s_skip ?_
                                  refine Z.s_val (Z.pv_pick rfl rfl) ?_
                                  refine Z.j_nil ?_
                                  refine Z.j_then ?_
                                  refine Z.j_cond rfl (fun hc90 => ?_) (fun hc90 => ?_)
                                  · try (with_reducible first | replace hc90 := of_decide_eq_true hc90 | replace hc90 := of_decide_eq_false hc90 | replace hc90 := Z.nd_true hc90 | replace hc90 := Z.nd_false hc90 | replace hc90 := Z.nn_true hc90 | replace hc90 := Z.nn_false hc90 | replace hc90 := Z.nb_true hc90 | replace hc90 := Z.nb_false hc90)
                                    exfalso
                                    first
                                    | (cases hc90; done)
                                    | exact (hU hg72).2.2 hc90
                                  · try (with_reducible first | replace hc90 := of_decide_eq_true hc90 | replace hc90 := of_decide_eq_false hc90 | replace hc90 := Z.nd_true hc90 | replace hc90 := Z.nd_false hc90 | replace hc90 := Z.nn_true hc90 | replace hc90 := Z.nn_false hc90 | replace hc90 := Z.nb_true hc90 | replace hc90 := Z.nb_false hc90)
                                    first
                                    | (exfalso; first | (cases hc90; done) | omega)
                                    | skip
                                      refine Z.j_skip ?_
                                      refine Z.j_then ?_
                                      refine Z.j_seq ?_
                                      refine Z.j_region ?_
                                      refine Z.s_val (Z.pv_move rfl) ?_
                                      refine Z.s_val (Z.pv_neq rfl rfl) ?_
                                      refine Z.j_nil ?_
                                      refine Z.j_then ?_
                                      refine Z.j_cond rfl (fun hc92 => ?_) (fun hc92 => ?_)
                                      · try (with_reducible first | replace hc92 := of_decide_eq_true hc92 | replace hc92 := of_decide_eq_false hc92 | replace hc92 := Z.nd_true hc92 | replace hc92 := Z.nd_false hc92 | replace hc92 := Z.nn_true hc92 | replace hc92 := Z.nn_false hc92 | replace hc92 := Z.nb_true hc92 | replace hc92 := Z.nb_false hc92)
                                        first
                                        | (exfalso; first | (cases hc92; done) | omega)
                                        | skip
                                          refine Z.j_region ?_
                                          refine Z.s_val (Z.pv_move rfl) ?_
                                          refine Z.s_val (Z.pv_fieldAddr (o' := 2) rfl Try.underlying33 rfl Try.sizeOf31 rfl) ?_
                                          refine Z.s_val (Z.pv_load1 rfl (by repeat (first | with_reducible exact Z.Take.here | apply Z.Take.there)) Try.isAgg31 (by rfl)) ?_
                                          refine Z.s_delete0 (k := o.t) rfl rfl Try.underlying29 kU64 (by repeat (first | with_reducible exact Z.Take.here | apply Z.Take.there)) ?_
                                          refine Z.j_nil ?_
                                          refine Z.j_blk ?_
                                          refine Z.j_then ?_
                                          refine Z.j_seq ?_
                                          first
                                          | (have hst := step_a (s := s) (o := o) (by omega) (by rw [hN]; exact hc106)
                                             rw [hN] at hst
                                             refine Z.j_cast (A := TabP tb (s.t.openT o.p o.t N)) (B := TabP tb (es os most idle abs (i + 1)).t) (by repeat (first | with_reducible exact Z.Take.here | apply Z.Take.there)) (by rw [hstep, hst]) ?_
                                             refine Z.j_cast (A := Z.MapP bb (Value.int .u64) (Value.int .i64) (Z.mput o.t N s.bm)) (B := Z.MapP bb (Value.int .u64) (Value.int .i64) (es os most idle abs (i + 1)).bm) (by repeat (first | with_reducible exact Z.Take.here | apply Z.Take.there)) (by rw [hstep, hst]) ?_
                                             refine Z.j_cast (A := Z.MapP pb (Value.int .u64) (Value.int .i64) (Z.mput o.t o.p s.pm)) (B := Z.MapP pb (Value.int .u64) (Value.int .i64) (es os most idle abs (i + 1)).pm) (by repeat (first | with_reducible exact Z.Take.here | apply Z.Take.there)) (by rw [hstep, hst]) ?_)
                                          | (have hst := step_b (s := s) (o := o) (by omega) (by rw [hN]; exact hc106)
                                             rw [hN] at hst
                                             refine Z.j_cast (A := TabP tb (s.t.openT o.p o.t N)) (B := TabP tb (es os most idle abs (i + 1)).t) (by repeat (first | with_reducible exact Z.Take.here | apply Z.Take.there)) (by rw [hstep, hst]) ?_
                                             refine Z.j_cast (A := Z.MapP bb (Value.int .u64) (Value.int .i64) s.bm) (B := Z.MapP bb (Value.int .u64) (Value.int .i64) (es os most idle abs (i + 1)).bm) (by repeat (first | with_reducible exact Z.Take.here | apply Z.Take.there)) (by rw [hstep, hst]) ?_
                                             refine Z.j_cast (A := Z.MapP pb (Value.int .u64) (Value.int .i64) s.pm) (B := Z.MapP pb (Value.int .u64) (Value.int .i64) (es os most idle abs (i + 1)).pm) (by repeat (first | with_reducible exact Z.Take.here | apply Z.Take.there)) (by rw [hstep, hst]) ?_)
                                          | (have hst := step_c (s := s) (o := o) (by omega) hc116
                                             rw [hN] at hst
                                             refine Z.j_cast (A := TabP tb (s.t.close o.t)) (B := TabP tb (es os most idle abs (i + 1)).t) (by repeat (first | with_reducible exact Z.Take.here | apply Z.Take.there)) (by rw [hstep, hst]) ?_
                                             refine Z.j_cast (A := Z.MapP bb (Value.int .u64) (Value.int .i64) (Z.mdel o.t s.bm)) (B := Z.MapP bb (Value.int .u64) (Value.int .i64) (es os most idle abs (i + 1)).bm) (by repeat (first | with_reducible exact Z.Take.here | apply Z.Take.there)) (by rw [hstep, hst]) ?_
                                             refine Z.j_cast (A := Z.MapP pb (Value.int .u64) (Value.int .i64) s.pm) (B := Z.MapP pb (Value.int .u64) (Value.int .i64) (es os most idle abs (i + 1)).pm) (by repeat (first | with_reducible exact Z.Take.here | apply Z.Take.there)) (by rw [hstep, hst]) ?_)
                                          | (have hst := step_d (s := s) (o := o) (by omega) hc116 (by rw [hN]; exact hc92)
                                             rw [hN] at hst
                                             refine Z.j_cast (A := TabP tb (s.t.useT o.t N)) (B := TabP tb (es os most idle abs (i + 1)).t) (by repeat (first | with_reducible exact Z.Take.here | apply Z.Take.there)) (by rw [hstep, hst]) ?_
                                             refine Z.j_cast (A := Z.MapP bb (Value.int .u64) (Value.int .i64) s.bm) (B := Z.MapP bb (Value.int .u64) (Value.int .i64) (es os most idle abs (i + 1)).bm) (by repeat (first | with_reducible exact Z.Take.here | apply Z.Take.there)) (by rw [hstep, hst]) ?_
                                             refine Z.j_cast (A := Z.MapP pb (Value.int .u64) (Value.int .i64) s.pm) (B := Z.MapP pb (Value.int .u64) (Value.int .i64) (es os most idle abs (i + 1)).pm) (by repeat (first | with_reducible exact Z.Take.here | apply Z.Take.there)) (by rw [hstep, hst]) ?_)
                                          | (have hst := step_e (s := s) (o := o) (by omega) hc116 (by rw [hN]; exact hc92)
                                             rw [hN] at hst
                                             refine Z.j_cast (A := TabP tb (s.t.useT o.t N)) (B := TabP tb (es os most idle abs (i + 1)).t) (by repeat (first | with_reducible exact Z.Take.here | apply Z.Take.there)) (by rw [hstep, hst]) ?_
                                             refine Z.j_cast (A := Z.MapP bb (Value.int .u64) (Value.int .i64) (Z.mdel o.t s.bm)) (B := Z.MapP bb (Value.int .u64) (Value.int .i64) (es os most idle abs (i + 1)).bm) (by repeat (first | with_reducible exact Z.Take.here | apply Z.Take.there)) (by rw [hstep, hst]) ?_
                                             refine Z.j_cast (A := Z.MapP pb (Value.int .u64) (Value.int .i64) s.pm) (B := Z.MapP pb (Value.int .u64) (Value.int .i64) (es os most idle abs (i + 1)).pm) (by repeat (first | with_reducible exact Z.Take.here | apply Z.Take.there)) (by rw [hstep, hst]) ?_)
                                          refine Z.j_region ?_
                                          refine Z.s_val (Z.pv_move rfl) ?_
                                          refine Z.s_callD rfl rfl rfl isFn13 (by repeat (first | with_reducible exact Z.Takes.nil | (apply Z.Takes.cons; (repeat (first | with_reducible exact Z.Take.here | apply Z.Take.there))))) (by repeat (first | exact Z.App.nil | apply Z.App.cons)) (len_spec _ tb (es os most idle abs (i + 1)).t) ?_
                                          refine Z.s_val (Z.pv_move rfl) ?_
                                          refine Z.s_val (Z.pv_gtr rfl rfl) ?_
                                          refine Z.j_nil ?_
                                          refine Z.j_then ?_
                                          refine Z.j_cond rfl (fun hc128 => ?_) (fun hc128 => ?_)
                                          · try (with_reducible first | replace hc128 := of_decide_eq_true hc128 | replace hc128 := of_decide_eq_false hc128 | replace hc128 := Z.nd_true hc128 | replace hc128 := Z.nd_false hc128 | replace hc128 := Z.nn_true hc128 | replace hc128 := Z.nn_false hc128 | replace hc128 := Z.nb_true hc128 | replace hc128 := Z.nb_false hc128)
                                            have := hEI2.len; omega
                                          · try (with_reducible first | replace hc128 := of_decide_eq_true hc128 | replace hc128 := of_decide_eq_false hc128 | replace hc128 := Z.nd_true hc128 | replace hc128 := Z.nd_false hc128 | replace hc128 := Z.nn_true hc128 | replace hc128 := Z.nn_false hc128 | replace hc128 := Z.nb_true hc128 | replace hc128 := Z.nb_false hc128)
                                            first
                                            | (exfalso; first | (cases hc128; done) | omega)
                                            | skip
                                              refine Z.j_skip ?_
                                              refine Z.j_blk ?_
                                              refine Z.j_then ?_
                                              refine Z.j_region ?_
                                              refine Z.s_val (Z.pv_add rfl rfl (by first | exact IntWalk.i64_in _ (by omega) | rfl)) ?_
                                              refine Z.s_val (Z.pv_move rfl) ?_
                                              refine Z.j_nil ?_
                                              refine Z.j_then ?_
                                              refine Z.s_is 13 rfl (show _ = Value.int .i64 (es os most idle abs (i + 1)).now from by rw [hstep, step_now, hN]) ?_
                                              (refine Z.j_nextG (X := { x : (Nat) // (x) ≤ n1 }) (EE := (fun (x : { x : (Nat) // (x) ≤ n1 }) => [(0, .int .i64 most), (1, .int .i64 idle), (2, .int .i64 abs), (3, .slice p1 n1 cap1), (9, .pointer (some ⟨tb, 0, none⟩)), (11, .map (some bb)), (12, .map (some pb)), (13, .int .i64 (es os most idle abs (x.1)).now), (42, .slice p1 n1 cap1), (43, .int .i64 n1), (44, .int .i64 ((x.1) : Nat))])) (LL := (fun (x : { x : (Nat) // (x) ≤ n1 }) => [TabP tb (es os most idle abs (x.1)).t, Z.MapP bb (Value.int .u64) (Value.int .i64) (es os most idle abs (x.1)).bm, Z.MapP pb (Value.int .u64) (Value.int .i64) (es os most idle abs (x.1)).pm])) (μ := (fun (x : { x : (Nat) // (x) ≤ n1 }) => n1 - (x.1))) (x := ⟨(i), hinv⟩) ⟨(i + 1), by omega⟩ ?_ ?_ ?_; (show n1 - (i + 1) < n1 - i; omega); (exact (by repeat (first | exact trivial | refine ⟨rfl, ?_⟩))); (exact Z.st_td (by repeat (first | with_reducible exact Z.Takes.nil | (apply Z.Takes.cons; (repeat (first | with_reducible exact Z.Take.here | apply Z.Take.there))))) (by repeat (first | with_reducible exact Z.Drop.nil | apply Z.Drop.cons))))
                                      · try (with_reducible first | replace hc92 := of_decide_eq_true hc92 | replace hc92 := of_decide_eq_false hc92 | replace hc92 := Z.nd_true hc92 | replace hc92 := Z.nd_false hc92 | replace hc92 := Z.nn_true hc92 | replace hc92 := Z.nn_false hc92 | replace hc92 := Z.nb_true hc92 | replace hc92 := Z.nb_false hc92)
                                        first
                                        | (exfalso; first | (cases hc92; done) | omega)
                                        | skip
                                          refine Z.j_skip ?_
                                          refine Z.j_blk ?_
                                          refine Z.j_then ?_
                                          refine Z.j_seq ?_
                                          first
                                          | (have hst := step_a (s := s) (o := o) (by omega) (by rw [hN]; exact hc106)
                                             rw [hN] at hst
                                             refine Z.j_cast (A := TabP tb (s.t.openT o.p o.t N)) (B := TabP tb (es os most idle abs (i + 1)).t) (by repeat (first | with_reducible exact Z.Take.here | apply Z.Take.there)) (by rw [hstep, hst]) ?_
                                             refine Z.j_cast (A := Z.MapP bb (Value.int .u64) (Value.int .i64) (Z.mput o.t N s.bm)) (B := Z.MapP bb (Value.int .u64) (Value.int .i64) (es os most idle abs (i + 1)).bm) (by repeat (first | with_reducible exact Z.Take.here | apply Z.Take.there)) (by rw [hstep, hst]) ?_
                                             refine Z.j_cast (A := Z.MapP pb (Value.int .u64) (Value.int .i64) (Z.mput o.t o.p s.pm)) (B := Z.MapP pb (Value.int .u64) (Value.int .i64) (es os most idle abs (i + 1)).pm) (by repeat (first | with_reducible exact Z.Take.here | apply Z.Take.there)) (by rw [hstep, hst]) ?_)
                                          | (have hst := step_b (s := s) (o := o) (by omega) (by rw [hN]; exact hc106)
                                             rw [hN] at hst
                                             refine Z.j_cast (A := TabP tb (s.t.openT o.p o.t N)) (B := TabP tb (es os most idle abs (i + 1)).t) (by repeat (first | with_reducible exact Z.Take.here | apply Z.Take.there)) (by rw [hstep, hst]) ?_
                                             refine Z.j_cast (A := Z.MapP bb (Value.int .u64) (Value.int .i64) s.bm) (B := Z.MapP bb (Value.int .u64) (Value.int .i64) (es os most idle abs (i + 1)).bm) (by repeat (first | with_reducible exact Z.Take.here | apply Z.Take.there)) (by rw [hstep, hst]) ?_
                                             refine Z.j_cast (A := Z.MapP pb (Value.int .u64) (Value.int .i64) s.pm) (B := Z.MapP pb (Value.int .u64) (Value.int .i64) (es os most idle abs (i + 1)).pm) (by repeat (first | with_reducible exact Z.Take.here | apply Z.Take.there)) (by rw [hstep, hst]) ?_)
                                          | (have hst := step_c (s := s) (o := o) (by omega) hc116
                                             rw [hN] at hst
                                             refine Z.j_cast (A := TabP tb (s.t.close o.t)) (B := TabP tb (es os most idle abs (i + 1)).t) (by repeat (first | with_reducible exact Z.Take.here | apply Z.Take.there)) (by rw [hstep, hst]) ?_
                                             refine Z.j_cast (A := Z.MapP bb (Value.int .u64) (Value.int .i64) (Z.mdel o.t s.bm)) (B := Z.MapP bb (Value.int .u64) (Value.int .i64) (es os most idle abs (i + 1)).bm) (by repeat (first | with_reducible exact Z.Take.here | apply Z.Take.there)) (by rw [hstep, hst]) ?_
                                             refine Z.j_cast (A := Z.MapP pb (Value.int .u64) (Value.int .i64) s.pm) (B := Z.MapP pb (Value.int .u64) (Value.int .i64) (es os most idle abs (i + 1)).pm) (by repeat (first | with_reducible exact Z.Take.here | apply Z.Take.there)) (by rw [hstep, hst]) ?_)
                                          | (have hst := step_d (s := s) (o := o) (by omega) hc116 (by rw [hN]; exact hc92)
                                             rw [hN] at hst
                                             refine Z.j_cast (A := TabP tb (s.t.useT o.t N)) (B := TabP tb (es os most idle abs (i + 1)).t) (by repeat (first | with_reducible exact Z.Take.here | apply Z.Take.there)) (by rw [hstep, hst]) ?_
                                             refine Z.j_cast (A := Z.MapP bb (Value.int .u64) (Value.int .i64) s.bm) (B := Z.MapP bb (Value.int .u64) (Value.int .i64) (es os most idle abs (i + 1)).bm) (by repeat (first | with_reducible exact Z.Take.here | apply Z.Take.there)) (by rw [hstep, hst]) ?_
                                             refine Z.j_cast (A := Z.MapP pb (Value.int .u64) (Value.int .i64) s.pm) (B := Z.MapP pb (Value.int .u64) (Value.int .i64) (es os most idle abs (i + 1)).pm) (by repeat (first | with_reducible exact Z.Take.here | apply Z.Take.there)) (by rw [hstep, hst]) ?_)
                                          | (have hst := step_e (s := s) (o := o) (by omega) hc116 (by rw [hN]; exact hc92)
                                             rw [hN] at hst
                                             refine Z.j_cast (A := TabP tb (s.t.useT o.t N)) (B := TabP tb (es os most idle abs (i + 1)).t) (by repeat (first | with_reducible exact Z.Take.here | apply Z.Take.there)) (by rw [hstep, hst]) ?_
                                             refine Z.j_cast (A := Z.MapP bb (Value.int .u64) (Value.int .i64) (Z.mdel o.t s.bm)) (B := Z.MapP bb (Value.int .u64) (Value.int .i64) (es os most idle abs (i + 1)).bm) (by repeat (first | with_reducible exact Z.Take.here | apply Z.Take.there)) (by rw [hstep, hst]) ?_
                                             refine Z.j_cast (A := Z.MapP pb (Value.int .u64) (Value.int .i64) s.pm) (B := Z.MapP pb (Value.int .u64) (Value.int .i64) (es os most idle abs (i + 1)).pm) (by repeat (first | with_reducible exact Z.Take.here | apply Z.Take.there)) (by rw [hstep, hst]) ?_)
                                          refine Z.j_region ?_
                                          refine Z.s_val (Z.pv_move rfl) ?_
                                          refine Z.s_callD rfl rfl rfl isFn13 (by repeat (first | with_reducible exact Z.Takes.nil | (apply Z.Takes.cons; (repeat (first | with_reducible exact Z.Take.here | apply Z.Take.there))))) (by repeat (first | exact Z.App.nil | apply Z.App.cons)) (len_spec _ tb (es os most idle abs (i + 1)).t) ?_
                                          refine Z.s_val (Z.pv_move rfl) ?_
                                          refine Z.s_val (Z.pv_gtr rfl rfl) ?_
                                          refine Z.j_nil ?_
                                          refine Z.j_then ?_
                                          refine Z.j_cond rfl (fun hc128 => ?_) (fun hc128 => ?_)
                                          · try (with_reducible first | replace hc128 := of_decide_eq_true hc128 | replace hc128 := of_decide_eq_false hc128 | replace hc128 := Z.nd_true hc128 | replace hc128 := Z.nd_false hc128 | replace hc128 := Z.nn_true hc128 | replace hc128 := Z.nn_false hc128 | replace hc128 := Z.nb_true hc128 | replace hc128 := Z.nb_false hc128)
                                            have := hEI2.len; omega
                                          · try (with_reducible first | replace hc128 := of_decide_eq_true hc128 | replace hc128 := of_decide_eq_false hc128 | replace hc128 := Z.nd_true hc128 | replace hc128 := Z.nd_false hc128 | replace hc128 := Z.nn_true hc128 | replace hc128 := Z.nn_false hc128 | replace hc128 := Z.nb_true hc128 | replace hc128 := Z.nb_false hc128)
                                            first
                                            | (exfalso; first | (cases hc128; done) | omega)
                                            | skip
                                              refine Z.j_skip ?_
                                              refine Z.j_blk ?_
                                              refine Z.j_then ?_
                                              refine Z.j_region ?_
                                              refine Z.s_val (Z.pv_add rfl rfl (by first | exact IntWalk.i64_in _ (by omega) | rfl)) ?_
                                              refine Z.s_val (Z.pv_move rfl) ?_
                                              refine Z.j_nil ?_
                                              refine Z.j_then ?_
                                              refine Z.s_is 13 rfl (show _ = Value.int .i64 (es os most idle abs (i + 1)).now from by rw [hstep, step_now, hN]) ?_
                                              (refine Z.j_nextG (X := { x : (Nat) // (x) ≤ n1 }) (EE := (fun (x : { x : (Nat) // (x) ≤ n1 }) => [(0, .int .i64 most), (1, .int .i64 idle), (2, .int .i64 abs), (3, .slice p1 n1 cap1), (9, .pointer (some ⟨tb, 0, none⟩)), (11, .map (some bb)), (12, .map (some pb)), (13, .int .i64 (es os most idle abs (x.1)).now), (42, .slice p1 n1 cap1), (43, .int .i64 n1), (44, .int .i64 ((x.1) : Nat))])) (LL := (fun (x : { x : (Nat) // (x) ≤ n1 }) => [TabP tb (es os most idle abs (x.1)).t, Z.MapP bb (Value.int .u64) (Value.int .i64) (es os most idle abs (x.1)).bm, Z.MapP pb (Value.int .u64) (Value.int .i64) (es os most idle abs (x.1)).pm])) (μ := (fun (x : { x : (Nat) // (x) ≤ n1 }) => n1 - (x.1))) (x := ⟨(i), hinv⟩) ⟨(i + 1), by omega⟩ ?_ ?_ ?_; (show n1 - (i + 1) < n1 - i; omega); (exact (by repeat (first | exact trivial | refine ⟨rfl, ?_⟩))); (exact Z.st_td (by repeat (first | with_reducible exact Z.Takes.nil | (apply Z.Takes.cons; (repeat (first | with_reducible exact Z.Take.here | apply Z.Take.there))))) (by repeat (first | with_reducible exact Z.Drop.nil | apply Z.Drop.cons))))
              · try (with_reducible first | replace hc45 := of_decide_eq_true hc45 | replace hc45 := of_decide_eq_false hc45 | replace hc45 := Z.nd_true hc45 | replace hc45 := Z.nd_false hc45 | replace hc45 := Z.nn_true hc45 | replace hc45 := Z.nn_false hc45 | replace hc45 := Z.nb_true hc45 | replace hc45 := Z.nb_false hc45)
                first
                | (exfalso; first | (cases hc45; done) | omega)
                | skip
                  have eN : n1 = i := by omega
                  subst eN
                  have hEI := es_EI os (most := most) (idle := idle) (abs := abs) (by omega) n1
                  have e0 := hEI.now0
                  have e1 := hEI.now1
                  have hlk := hEI.lek
                  have hok := hEI.ok (by omega)
                  have hmx := mx_bd idle abs
                  refine Z.j_exit ?_
                  refine Z.j_then_exit ?_
                  refine Z.j_then_exit ?_
                  refine Z.j_blk_here rfl ?_
                  refine Z.j_then ?_
                  refine Z.j_seq ?_
                  refine Z.j_region ?_
                  refine Z.s_val (Z.pv_move rfl) ?_
                  refine Z.s_callD rfl rfl rfl isFn13 (by repeat (first | with_reducible exact Z.Takes.nil | (apply Z.Takes.cons; (repeat (first | with_reducible exact Z.Take.here | apply Z.Take.there))))) (by repeat (first | exact Z.App.nil | apply Z.App.cons)) (len_spec _ tb (es os most idle abs n1).t) ?_
                  refine Z.s_val (Z.pv_assign rfl) ?_
                  refine Z.j_nil ?_
                  refine Z.j_then ?_
                  refine Z.j_seq ?_
                  refine Z.j_region ?_
                  refine Z.s_val (Z.pv_move rfl) ?_
                  refine Z.s_val (Z.pv_move rfl) ?_
                  refine Z.s_val (Z.pv_move rfl) ?_
                  refine Z.s_val (Z.pv_move rfl) ?_
                  refine Z.s_val (Z.pv_max rfl rfl) ?_
                  refine Z.s_val (Z.pv_add rfl rfl (by first | exact IntWalk.i64_in _ (by omega) | rfl)) ?_
                  refine Z.s_callD rfl rfl rfl isFn14 (by repeat (first | with_reducible exact Z.Takes.nil | (apply Z.Takes.cons; (repeat (first | with_reducible exact Z.Take.here | apply Z.Take.there))))) (by repeat (first | exact Z.App.nil | apply Z.App.cons)) (sweep_is (t := (es os most idle abs n1).t) (T' := { (es os most idle abs n1).t with m := [] }) (n := (es os most idle abs n1).t.m.length) hok (hEI.end_ (by omega) hi2 ha) (by simp)) ?_
                  refine Z.s_val (Z.pv_move rfl) ?_
                  refine Z.s_val (Z.pv_eql rfl rfl) ?_
                  refine Z.s_val (Z.pv_move rfl) ?_
                  refine Z.s_is 141 rfl (show _ = Value.bool true from (by rw [decide_eq_true rfl])) ?_
                  refine Z.s_val (Z.pv_move rfl) ?_
                  refine Z.s_callD rfl rfl rfl isFn13 (by repeat (first | with_reducible exact Z.Takes.nil | (apply Z.Takes.cons; (repeat (first | with_reducible exact Z.Take.here | apply Z.Take.there))))) (by repeat (first | exact Z.App.nil | apply Z.App.cons)) (len_spec _ tb { (es os most idle abs n1).t with m := [] }) ?_
                  refine Z.s_val (Z.pv_eql rfl rfl) ?_
                  refine Z.s_val (Z.pv_pick rfl rfl) ?_
                  refine Z.s_val (Z.pv_assign rfl) ?_
                  refine Z.j_nil ?_
                  refine Z.j_then ?_
                  refine Z.j_ret ?_
                  refine Z.j_done_ret (Z.rv1 (Z.rv_tmp (t := 8) rfl)) ?_
                  exact Z.post_of ⟨by first | rfl | (congr 1; exact decide_eq_true (by omega)), rfl⟩ (by repeat (first | with_reducible exact Z.Takes.nil | (apply Z.Takes.cons; (repeat (first | with_reducible exact Z.Take.here | apply Z.Take.there))))) (by repeat (first | with_reducible exact Z.Drop.nil | apply Z.Drop.cons))
      · try (with_reducible first | replace hg26 := of_decide_eq_true hg26 | replace hg26 := of_decide_eq_false hg26 | replace hg26 := Z.nd_true hg26 | replace hg26 := Z.nd_false hg26 | replace hg26 := Z.nn_true hg26 | replace hg26 := Z.nn_false hg26 | replace hg26 := Z.nb_true hg26 | replace hg26 := Z.nb_false hg26)
        first
        | (exfalso; first | (cases hg26; done) | omega)
        | skip
          refine Z.s_val (Z.pv_move rfl) ?_
          refine Z.s_val (Z.pv_move rfl) ?_
          refine Z.s_val (Z.pv_move rfl) ?_
          refine Z.s_callD rfl rfl rfl isFn8 (by repeat (first | with_reducible exact Z.Takes.nil | (apply Z.Takes.cons; (repeat (first | with_reducible exact Z.Take.here | apply Z.Take.there))))) (by repeat (first | exact Z.App.nil | apply Z.App.cons)) (right_spec _ _ _ _) ?_
          refine Z.s_val (Z.pv_not rfl) ?_
          refine Z.s_val (Z.pv_pick rfl rfl) ?_
          refine Z.j_nil ?_
          refine Z.j_then ?_
          refine Z.j_cond rfl (fun hc32 => ?_) (fun hc32 => ?_)
          · try (with_reducible first | replace hc32 := of_decide_eq_true hc32 | replace hc32 := of_decide_eq_false hc32 | replace hc32 := Z.nd_true hc32 | replace hc32 := Z.nd_false hc32 | replace hc32 := Z.nn_true hc32 | replace hc32 := Z.nn_false hc32 | replace hc32 := Z.nb_true hc32 | replace hc32 := Z.nb_false hc32)
            first
            | (exfalso; first | (cases hc32; done) | omega)
            | skip
              refine Z.j_seq ?_
              refine Z.j_region ?_
              refine Z.s_val (Z.pv_assign rfl) ?_
              refine Z.j_nil ?_
              refine Z.j_then ?_
              refine Z.j_ret ?_
              refine Z.j_then_ret ?_
              refine Z.j_done_ret (Z.rv1 (Z.rv_tmp (t := 8) rfl)) ?_
              exact Z.post_of ⟨by first | rfl | (congr 1; exact decide_eq_true (by omega)), rfl⟩ (by repeat (first | with_reducible exact Z.Takes.nil | (apply Z.Takes.cons; (repeat (first | with_reducible exact Z.Take.here | apply Z.Take.there))))) (by repeat (first | with_reducible exact Z.Drop.nil | apply Z.Drop.cons))
          · try (with_reducible first | replace hc32 := of_decide_eq_true hc32 | replace hc32 := of_decide_eq_false hc32 | replace hc32 := Z.nd_true hc32 | replace hc32 := Z.nd_false hc32 | replace hc32 := Z.nn_true hc32 | replace hc32 := Z.nn_false hc32 | replace hc32 := Z.nb_true hc32 | replace hc32 := Z.nb_false hc32)
            first
            | (exfalso; first | (cases hc32; done) | omega)
            | skip
              obtain ⟨hm, hi2, ha, hsi, hsa⟩ := right_facts hc32
              refine Z.j_skip ?_
              refine Z.j_then ?_
              refine Z.j_seq ?_
              refine Z.j_region ?_
              refine Z.s_val (Z.pv_move rfl) ?_
              refine Z.s_val (Z.pv_move rfl) ?_
              refine Z.s_val (Z.pv_move rfl) ?_
              refine Z.s_call rfl rfl rfl isFn9 (by repeat (first | with_reducible exact Z.Takes.nil | (apply Z.Takes.cons; (repeat (first | with_reducible exact Z.Take.here | apply Z.Take.there))))) (new_spec _ _ _ _ (by omega) (by omega) hsi hsa) ?_
              rintro _ _ ⟨tb, rfl, rfl⟩
              refine Z.j_app (by repeat (first | exact Z.App.nil | apply Z.App.cons)) ?_
              refine Z.s_val (Z.pv_move rfl) ?_
              refine Z.s_val (Z.pv_extract rfl rfl) ?_
              refine Z.s_val (Z.pv_extract rfl rfl) ?_
              refine Z.s_val (Z.pv_assign rfl) ?_
              refine Z.s_val (Z.pv_assign rfl) ?_
              refine Z.j_nil ?_
              refine Z.j_then ?_
              refine Z.j_seq ?_
              refine Z.j_region ?_
              refine Z.s_makeMap (Value.int .u64) (Value.int .i64) (fun bb => ?_)
              refine Z.s_val (Z.pv_assign rfl) ?_
              refine Z.j_nil ?_
              refine Z.j_then ?_
              refine Z.j_seq ?_
              refine Z.j_region ?_
              refine Z.s_makeMap (Value.int .u64) (Value.int .i64) (fun pb => ?_)
              refine Z.s_val (Z.pv_assign rfl) ?_
              refine Z.j_nil ?_
              refine Z.j_then ?_
              refine Z.j_seq ?_
              refine Z.j_region ?_
              refine Z.s_val (Z.pv_assign rfl) ?_
              refine Z.j_nil ?_
              refine Z.j_then ?_
              refine Z.j_seq ?_
              refine Z.j_seq ?_
              refine Z.j_region ?_
              refine Z.s_val (Z.pv_move rfl) ?_
              refine Z.s_val (Z.pv_len rfl Try.underlying22) ?_
              refine Z.s_val (Z.pv_move rfl) ?_
              refine Z.j_nil ?_
              refine Z.j_then ?_
              refine Z.j_block ?_
              refine Z.j_cast (A := TabP tb ⟨[], most, idle, abs⟩) (B := TabP tb (es os most idle abs 0).t) (by repeat (first | with_reducible exact Z.Take.here | apply Z.Take.there)) rfl ?_
              refine Z.j_cast (A := Z.MapP bb (Value.int .u64) (Value.int .i64) []) (B := Z.MapP bb (Value.int .u64) (Value.int .i64) (es os most idle abs 0).bm) (by repeat (first | with_reducible exact Z.Take.here | apply Z.Take.there)) rfl ?_
              refine Z.j_cast (A := Z.MapP pb (Value.int .u64) (Value.int .i64) []) (B := Z.MapP pb (Value.int .u64) (Value.int .i64) (es os most idle abs 0).pm) (by repeat (first | with_reducible exact Z.Take.here | apply Z.Take.there)) rfl ?_
              refine Z.j_initF (E' := [(0, .int .i64 most), (1, .int .i64 idle), (2, .int .i64 abs), (3, .slice p1 n1 cap1), (9, .pointer (some ⟨tb, 0, none⟩)), (11, .map (some bb)), (12, .map (some pb)), (13, .int .i64 (es os most idle abs (0)).now), (42, .slice p1 n1 cap1), (43, .int .i64 n1), (44, .int .i64 ((0) : Nat))]) (As := [TabP tb (es os most idle abs (0)).t, Z.MapP bb (Value.int .u64) (Value.int .i64) (es os most idle abs (0)).bm, Z.MapP pb (Value.int .u64) (Value.int .i64) (es os most idle abs (0)).pm]) (Fr := Fr) (by repeat (first | exact trivial | refine ⟨rfl, ?_⟩)) (by repeat (first | with_reducible exact Z.Takes.nil | (apply Z.Takes.cons; (repeat (first | with_reducible exact Z.Take.here | apply Z.Take.there))))) (by repeat (first | with_reducible exact Z.Drop.nil | apply Z.Drop.cons)) ?_
              refine Z.j_loop (X := { x : (Nat) // (x) ≤ n1 }) (fun (x : { x : (Nat) // (x) ≤ n1 }) => [(0, .int .i64 most), (1, .int .i64 idle), (2, .int .i64 abs), (3, .slice p1 n1 cap1), (9, .pointer (some ⟨tb, 0, none⟩)), (11, .map (some bb)), (12, .map (some pb)), (13, .int .i64 (es os most idle abs (x.1)).now), (42, .slice p1 n1 cap1), (43, .int .i64 n1), (44, .int .i64 ((x.1) : Nat))]) (fun x => (fun (x : { x : (Nat) // (x) ≤ n1 }) => [TabP tb (es os most idle abs (x.1)).t, Z.MapP bb (Value.int .u64) (Value.int .i64) (es os most idle abs (x.1)).bm, Z.MapP pb (Value.int .u64) (Value.int .i64) (es os most idle abs (x.1)).pm]) x ++ Fr) (fun (x : { x : (Nat) // (x) ≤ n1 }) => n1 - (x.1)) ⟨(0), by omega⟩ (fun x => ?_)
              obtain ⟨i, hinv⟩ := x
              have hinv' : i ≤ n1 := hinv
              have hi := hinv'
              show Z.J _ _ _ ([(0, .int .i64 most), (1, .int .i64 idle), (2, .int .i64 abs), (3, .slice p1 n1 cap1), (9, .pointer (some ⟨tb, 0, none⟩)), (11, .map (some bb)), (12, .map (some pb)), (13, .int .i64 (es os most idle abs i).now), (42, .slice p1 n1 cap1), (43, .int .i64 n1), (44, .int .i64 (i : Nat))]) ([TabP tb (es os most idle abs i).t, Z.MapP bb (Value.int .u64) (Value.int .i64) (es os most idle abs i).bm, Z.MapP pb (Value.int .u64) (Value.int .i64) (es os most idle abs i).pm] ++ Fr) _
              refine Z.j_app (by repeat (first | exact Z.App.nil | apply Z.App.cons)) ?_
              refine Z.j_seq ?_
              refine Z.j_region ?_
              refine Z.s_val (Z.pv_lss rfl rfl) ?_
              refine Z.j_nil ?_
              refine Z.j_then ?_
              refine Z.j_seq ?_
              refine Z.j_cond rfl (fun hc45 => ?_) (fun hc45 => ?_)
              · try (with_reducible first | replace hc45 := of_decide_eq_true hc45 | replace hc45 := of_decide_eq_false hc45 | replace hc45 := Z.nd_true hc45 | replace hc45 := Z.nd_false hc45 | replace hc45 := Z.nn_true hc45 | replace hc45 := Z.nn_false hc45 | replace hc45 := Z.nb_true hc45 | replace hc45 := Z.nb_false hc45)
                first
                | (exfalso; first | (cases hc45; done) | omega)
                | skip
                  obtain ⟨b1, o1, ep, hro1⟩ := hp1 (by omega)
                  obtain ⟨s, hs⟩ : ∃ s, (es os most idle abs i) = s := ⟨_, rfl⟩
                  have hEI := es_EI os (most := most) (idle := idle) (abs := abs) (by omega) i
                  have hEI2 := es_EI os (most := most) (idle := idle) (abs := abs) (by omega) (i + 1)
                  rw [hs] at hEI ⊢
                  obtain ⟨o, ho⟩ : ∃ o, os.getD i OpT.z = o := ⟨_, rfl⟩
                  have hstep : (es os most idle abs (i + 1)) = stepE s o := by rw [← hs, ← ho]; rfl
                  have hmb := and_bd o.n 255 (by decide) (by decide)
                  have e0 := hEI.now0
                  have e1 := hEI.now1
                  have hok := hEI.ok (by omega)
                  have hbv := hEI.bval (q := o.t)
                  refine Z.j_skip ?_
                  refine Z.j_then ?_
                  refine Z.j_seq ?_
                  refine Z.j_block ?_
                  refine Z.j_seq ?_
                  refine Z.j_region ?_
                  refine Z.s_val (Z.pv_indexAddr (o' := o1 + i * 4) (b := b1) (o := o1) (len := n1) (cap := cap1) (by show some (Value.slice p1 n1 cap1) = _; rw [ep]) rfl Try.underlying22 Try.sizeOf33 (by omega) (by simp)) ?_
                  refine Z.s_val (Z.pv_is (Z.pv_loadAr (r := (os.getD i OpT.z).c) (b := b1) (o := o1) (j := i * 4) rfl hro1 rfl Try.isAgg33 Try.sizeOf33 (slc_op (by omega))) (show _ = Value.agg #[.int .i64 o.k, .int .i64 o.p, .int .u64 o.t, .int .i64 o.n] from by rw [ho]; rfl)) ?_
                  refine Z.s_alloc Try.zeroValue33 (fun b15 => ?_)
                  refine Z.s_storeA rfl rfl Try.sizeOf33 rfl (by repeat (first | with_reducible exact Z.Upd.here | apply Z.Upd.there)) (by rfl) ?_
                  refine Z.j_nil ?_
                  refine Z.j_then ?_
                  refine Z.j_seq ?_
                  refine Z.j_region ?_
                  refine Z.s_val (Z.pv_move rfl) ?_
                  refine Z.s_val (Z.pv_fieldAddr (o' := 3) rfl Try.underlying33 rfl Try.sizeOf2 rfl) ?_
                  refine Z.s_val (Z.pv_load1 rfl (by repeat (first | with_reducible exact Z.Take.here | apply Z.Take.there)) Try.isAgg2 (by rfl)) ?_
                  refine Z.s_val (Z.pv_bits rfl rfl rfl) ?_
                  refine Z.s_val (Z.pv_add rfl rfl (by first | exact IntWalk.i64_in _ (by omega) | rfl)) ?_
                  refine Z.s_val (Z.pv_assign rfl) ?_
                  obtain ⟨N, hN⟩ : ∃ N, s.now + msk o.n 255 = N := ⟨_, rfl⟩
                  have hN' : s.now + Z.bitsOf .and .i64 o.n 255 = N := hN
                  refine Z.s_is 13 rfl (show _ = Value.int .i64 N from by rw [← hN]; rfl) ?_
                  have hU : s.t.useE o.t N = 0 → _ := hEI.use (q := o.t) (N := N) (by omega) (by omega)
                  refine Z.j_nil ?_
                  refine Z.j_then ?_
                  refine Z.j_seq ?_
                  refine Z.j_seq ?_
                  refine Z.j_region ?_
                  refine Z.s_val (Z.pv_fieldAddr (o' := 0) rfl Try.underlying33 rfl Try.sizeOf3 rfl) ?_
                  refine Z.s_val (Z.pv_load1 rfl (by repeat (first | with_reducible exact Z.Take.here | apply Z.Take.there)) Try.isAgg3 (by rfl)) ?_
                  refine Z.j_nil ?_
                  refine Z.j_then ?_
                  refine Z.j_block ?_
                  refine Z.j_seq ?_
                  refine Z.j_seq ?_
                  refine Z.j_region ?_
                  refine Z.s_val (Z.pv_eql rfl rfl) ?_
                  refine Z.s_val (Z.pv_assign rfl) ?_
                  refine Z.j_nil ?_
                  refine Z.j_then ?_
                  refine Z.j_cond rfl (fun hc96 => ?_) (fun hc96 => ?_)
                  · try (with_reducible first | replace hc96 := of_decide_eq_true hc96 | replace hc96 := of_decide_eq_false hc96 | replace hc96 := Z.nd_true hc96 | replace hc96 := Z.nd_false hc96 | replace hc96 := Z.nn_true hc96 | replace hc96 := Z.nn_false hc96 | replace hc96 := Z.nb_true hc96 | replace hc96 := Z.nb_false hc96)
                    first
                    | (exfalso; first | (cases hc96; done) | omega)
                    | skip
                      refine Z.j_skip ?_
                      refine Z.j_then ?_
                      refine Z.j_cond rfl (fun hc96 => ?_) (fun hc96 => ?_)
                      · try (with_reducible first | replace hc96 := of_decide_eq_true hc96 | replace hc96 := of_decide_eq_false hc96 | replace hc96 := Z.nd_true hc96 | replace hc96 := Z.nd_false hc96 | replace hc96 := Z.nn_true hc96 | replace hc96 := Z.nn_false hc96 | replace hc96 := Z.nb_true hc96 | replace hc96 := Z.nb_false hc96)
                        first
                        | (exfalso; first | (cases hc96; done) | omega)
                        | skip
                          refine Z.j_seq ?_
                          refine Z.j_region ?_
                          refine Z.s_val (Z.pv_move rfl) ?_
                          refine Z.s_val (Z.pv_fieldAddr (o' := 1) rfl Try.underlying33 rfl Try.sizeOf3 rfl) ?_
                          refine Z.s_val (Z.pv_load1 rfl (by repeat (first | with_reducible exact Z.Take.here | apply Z.Take.there)) Try.isAgg3 (by rfl)) ?_
                          refine Z.s_val (Z.pv_fieldAddr (o' := 2) rfl Try.underlying33 rfl Try.sizeOf31 rfl) ?_
                          refine Z.s_val (Z.pv_load1 rfl (by repeat (first | with_reducible exact Z.Take.here | apply Z.Take.there)) Try.isAgg31 (by rfl)) ?_
                          refine Z.s_val (Z.pv_move rfl) ?_
                          refine Z.s_callD rfl rfl rfl isFn10 (by repeat (first | with_reducible exact Z.Takes.nil | (apply Z.Takes.cons; (repeat (first | with_reducible exact Z.Take.here | apply Z.Take.there))))) (by repeat (first | exact Z.App.nil | apply Z.App.cons)) (open_spec _ tb s.t o.p o.t N hok) ?_
                          refine Z.s_val (Z.pv_eql rfl rfl) ?_
                          refine Z.j_nil ?_
                          refine Z.j_then ?_
                          refine Z.j_cond rfl (fun hc106 => ?_) (fun hc106 => ?_)
                          · try (with_reducible first | replace hc106 := of_decide_eq_true hc106 | replace hc106 := of_decide_eq_false hc106 | replace hc106 := Z.nd_true hc106 | replace hc106 := Z.nd_false hc106 | replace hc106 := Z.nn_true hc106 | replace hc106 := Z.nn_false hc106 | replace hc106 := Z.nb_true hc106 | replace hc106 := Z.nb_false hc106)
                            first
                            | (exfalso; first | (cases hc106; done) | omega)
                            | skip
                              refine Z.j_drawT [⟨none, none, [2, 5, 8], fun ρ => Z.cl b15 33 [.int .i64 o.k, .int .i64 o.p, .int .u64 o.t, .int .i64 o.n]⟩, ⟨none, (some 9), [], fun ρ => Z.MapP bb (Value.int .u64) (Value.int .i64) s.bm⟩, ⟨(some 9), none, [], fun ρ => Z.MapP bb (Value.int .u64) (Value.int .i64) (Z.mput o.t N s.bm)⟩, ⟨none, (some 10), [], fun ρ => Z.MapP pb (Value.int .u64) (Value.int .i64) s.pm⟩, ⟨(some 10), none, [], fun ρ => Z.MapP pb (Value.int .u64) (Value.int .i64) (Z.mput o.t o.p s.pm)⟩] [9, 10] (fun ρ => [.map (some bb), .pointer (some ⟨b15, 2, none⟩), .int .u64 o.t, .map (some pb), .pointer (some ⟨b15, 2, none⟩), .int .u64 o.t, .int .i64 N, .pointer (some ⟨b15, 1, none⟩), .int .i64 o.p, ρ 9, ρ 10]) (by kernel_rfl) (by kernel_rfl) (by rfl) (fun _ => rfl) ⟨fun _ => rfl, fun _ _ => rfl, fun _ _ => rfl, ⟨fun _ => rfl, fun _ _ => rfl, fun _ _ => rfl, trivial⟩⟩ (fun ρ => (by repeat (first | with_reducible exact Z.Takes.nil | (apply Z.Takes.cons; (repeat (first | with_reducible exact Z.Take.here | apply Z.Take.there))) | exact Z.Takes.nil))) ?_ (fun ρ => ?_)
                              · skip
                                refine Z.tops_cons ?_ ?_
                                · refine Z.top_q (fun ρ => .map (some bb)) rfl (fun _ => rfl) (fun ρ Rr => ?_)
                                  show Z.HQ _ _ _ _ _ _ (Rr) _ _
                                  exact (Z.hq_val (Z.pv_move rfl))
                                refine Z.tops_cons ?_ ?_
                                · refine Z.top_q (fun ρ => .pointer (some ⟨b15, 2, none⟩)) rfl (fun _ => rfl) (fun ρ Rr => ?_)
                                  show Z.HQ _ _ _ _ _ _ (Rr) _ _
                                  exact (Z.hq_val (Z.pv_fieldAddr (o' := 2) rfl Try.underlying33 rfl Try.sizeOf31 rfl))
                                refine Z.tops_cons ?_ ?_
                                · refine Z.top_q (fun ρ => .int .u64 o.t) rfl (fun _ => rfl) (fun ρ Rr => ?_)
                                  show Z.HQ _ _ _ _ _ _ (Z.cl b15 33 [.int .i64 o.k, .int .i64 o.p, .int .u64 o.t, .int .i64 o.n] :: Rr) _ _
                                  exact (Z.hq_val (Z.pv_load1 rfl (by repeat (first | with_reducible exact Z.Take.here | apply Z.Take.there)) Try.isAgg31 (by rfl)))
                                refine Z.tops_cons ?_ ?_
                                · refine Z.top_q (fun ρ => .map (some pb)) rfl (fun _ => rfl) (fun ρ Rr => ?_)
                                  show Z.HQ _ _ _ _ _ _ (Rr) _ _
                                  exact (Z.hq_val (Z.pv_move rfl))
                                refine Z.tops_cons ?_ ?_
                                · refine Z.top_q (fun ρ => .pointer (some ⟨b15, 2, none⟩)) rfl (fun _ => rfl) (fun ρ Rr => ?_)
                                  show Z.HQ _ _ _ _ _ _ (Rr) _ _
                                  exact (Z.hq_val (Z.pv_fieldAddr (o' := 2) rfl Try.underlying33 rfl Try.sizeOf31 rfl))
                                refine Z.tops_cons ?_ ?_
                                · refine Z.top_q (fun ρ => .int .u64 o.t) rfl (fun _ => rfl) (fun ρ Rr => ?_)
                                  show Z.HQ _ _ _ _ _ _ (Z.cl b15 33 [.int .i64 o.k, .int .i64 o.p, .int .u64 o.t, .int .i64 o.n] :: Rr) _ _
                                  exact (Z.hq_val (Z.pv_load1 rfl (by repeat (first | with_reducible exact Z.Take.here | apply Z.Take.there)) Try.isAgg31 (by rfl)))
                                refine Z.tops_cons ?_ ?_
                                · refine Z.top_q (fun ρ => .int .i64 N) rfl (fun _ => rfl) (fun ρ Rr => ?_)
                                  show Z.HQ _ _ _ _ _ _ (Rr) _ _
                                  exact (Z.hq_val (Z.pv_move rfl))
                                refine Z.tops_cons ?_ ?_
                                · refine Z.top_q (fun ρ => .pointer (some ⟨b15, 1, none⟩)) rfl (fun _ => rfl) (fun ρ Rr => ?_)
                                  show Z.HQ _ _ _ _ _ _ (Rr) _ _
                                  exact (Z.hq_val (Z.pv_fieldAddr (o' := 1) rfl Try.underlying33 rfl Try.sizeOf3 rfl))
                                refine Z.tops_cons ?_ ?_
                                · refine Z.top_q (fun ρ => .int .i64 o.p) rfl (fun _ => rfl) (fun ρ Rr => ?_)
                                  show Z.HQ _ _ _ _ _ _ (Z.cl b15 33 [.int .i64 o.k, .int .i64 o.p, .int .u64 o.t, .int .i64 o.n] :: Rr) _ _
                                  exact (Z.hq_val (Z.pv_load1 rfl (by repeat (first | with_reducible exact Z.Take.here | apply Z.Take.there)) Try.isAgg3 (by rfl)))
                                refine Z.tops_cons ?_ ?_
                                · refine Z.top_c rfl (fun ρ Rr => ?_)
                                  refine Z.hn_of0 rfl (by rfl) rfl ?_
                                  show Z.J _ _ _ _ ([Z.MapP bb (Value.int .u64) (Value.int .i64) s.bm] ++ Rr) _
                                  refine Z.j_app (by repeat (first | exact Z.App.nil | apply Z.App.cons)) ?_
                                  refine Z.s_mapUpdate (k := o.t) (v := N) rfl rfl rfl Try.underlying29 kU64 (by repeat (first | with_reducible exact Z.Take.here | apply Z.Take.there)) ?_
                                  refine Z.j_nil ?_
                                  refine Z.hn_end0 (fun _ => Z.st_td (by repeat (first | with_reducible exact Z.Takes.nil | (apply Z.Takes.cons; (repeat (first | exact Z.Take.here | apply Z.Take.there))) | exact Z.Takes.nil)) (by repeat (first | with_reducible exact Z.Drop.nil | apply Z.Drop.cons)))
                                refine Z.tops_cons ?_ ?_
                                · refine Z.top_c rfl (fun ρ Rr => ?_)
                                  refine Z.hn_of0 rfl (by rfl) rfl ?_
                                  show Z.J _ _ _ _ ([Z.MapP pb (Value.int .u64) (Value.int .i64) s.pm] ++ Rr) _
                                  refine Z.j_app (by repeat (first | exact Z.App.nil | apply Z.App.cons)) ?_
                                  refine Z.s_mapUpdate (k := o.t) (v := o.p) rfl rfl rfl Try.underlying30 kU64 (by repeat (first | with_reducible exact Z.Take.here | apply Z.Take.there)) ?_
                                  refine Z.j_nil ?_
                                  refine Z.hn_end0 (fun _ => Z.st_td (by repeat (first | with_reducible exact Z.Takes.nil | (apply Z.Takes.cons; (repeat (first | exact Z.Take.here | apply Z.Take.there))) | exact Z.Takes.nil)) (by repeat (first | with_reducible exact Z.Drop.nil | apply Z.Drop.cons)))
                                exact Z.tops_nil
                              · show Z.J _ _ _ _ ([Z.cl b15 33 [.int .i64 o.k, .int .i64 o.p, .int .u64 o.t, .int .i64 o.n], Z.MapP bb (Value.int .u64) (Value.int .i64) (Z.mput o.t N s.bm), Z.MapP pb (Value.int .u64) (Value.int .i64) (Z.mput o.t o.p s.pm)] ++ _) _
                                refine Z.j_app (by repeat (first | exact Z.App.nil | apply Z.App.cons)) ?_
                                refine Z.j_blk ?_
                                refine Z.j_then ?_
                                refine Z.j_seq ?_
                                first
                                | (have hst := step_a (s := s) (o := o) (by omega) (by rw [hN]; exact hc106)
                                   rw [hN] at hst
                                   refine Z.j_cast (A := TabP tb (s.t.openT o.p o.t N)) (B := TabP tb (es os most idle abs (i + 1)).t) (by repeat (first | with_reducible exact Z.Take.here | apply Z.Take.there)) (by rw [hstep, hst]) ?_
                                   refine Z.j_cast (A := Z.MapP bb (Value.int .u64) (Value.int .i64) (Z.mput o.t N s.bm)) (B := Z.MapP bb (Value.int .u64) (Value.int .i64) (es os most idle abs (i + 1)).bm) (by repeat (first | with_reducible exact Z.Take.here | apply Z.Take.there)) (by rw [hstep, hst]) ?_
                                   refine Z.j_cast (A := Z.MapP pb (Value.int .u64) (Value.int .i64) (Z.mput o.t o.p s.pm)) (B := Z.MapP pb (Value.int .u64) (Value.int .i64) (es os most idle abs (i + 1)).pm) (by repeat (first | with_reducible exact Z.Take.here | apply Z.Take.there)) (by rw [hstep, hst]) ?_)
                                | (have hst := step_b (s := s) (o := o) (by omega) (by rw [hN]; exact hc106)
                                   rw [hN] at hst
                                   refine Z.j_cast (A := TabP tb (s.t.openT o.p o.t N)) (B := TabP tb (es os most idle abs (i + 1)).t) (by repeat (first | with_reducible exact Z.Take.here | apply Z.Take.there)) (by rw [hstep, hst]) ?_
                                   refine Z.j_cast (A := Z.MapP bb (Value.int .u64) (Value.int .i64) s.bm) (B := Z.MapP bb (Value.int .u64) (Value.int .i64) (es os most idle abs (i + 1)).bm) (by repeat (first | with_reducible exact Z.Take.here | apply Z.Take.there)) (by rw [hstep, hst]) ?_
                                   refine Z.j_cast (A := Z.MapP pb (Value.int .u64) (Value.int .i64) s.pm) (B := Z.MapP pb (Value.int .u64) (Value.int .i64) (es os most idle abs (i + 1)).pm) (by repeat (first | with_reducible exact Z.Take.here | apply Z.Take.there)) (by rw [hstep, hst]) ?_)
                                | (have hst := step_c (s := s) (o := o) (by omega) hc116
                                   rw [hN] at hst
                                   refine Z.j_cast (A := TabP tb (s.t.close o.t)) (B := TabP tb (es os most idle abs (i + 1)).t) (by repeat (first | with_reducible exact Z.Take.here | apply Z.Take.there)) (by rw [hstep, hst]) ?_
                                   refine Z.j_cast (A := Z.MapP bb (Value.int .u64) (Value.int .i64) (Z.mdel o.t s.bm)) (B := Z.MapP bb (Value.int .u64) (Value.int .i64) (es os most idle abs (i + 1)).bm) (by repeat (first | with_reducible exact Z.Take.here | apply Z.Take.there)) (by rw [hstep, hst]) ?_
                                   refine Z.j_cast (A := Z.MapP pb (Value.int .u64) (Value.int .i64) s.pm) (B := Z.MapP pb (Value.int .u64) (Value.int .i64) (es os most idle abs (i + 1)).pm) (by repeat (first | with_reducible exact Z.Take.here | apply Z.Take.there)) (by rw [hstep, hst]) ?_)
                                | (have hst := step_d (s := s) (o := o) (by omega) hc116 (by rw [hN]; exact hc92)
                                   rw [hN] at hst
                                   refine Z.j_cast (A := TabP tb (s.t.useT o.t N)) (B := TabP tb (es os most idle abs (i + 1)).t) (by repeat (first | with_reducible exact Z.Take.here | apply Z.Take.there)) (by rw [hstep, hst]) ?_
                                   refine Z.j_cast (A := Z.MapP bb (Value.int .u64) (Value.int .i64) s.bm) (B := Z.MapP bb (Value.int .u64) (Value.int .i64) (es os most idle abs (i + 1)).bm) (by repeat (first | with_reducible exact Z.Take.here | apply Z.Take.there)) (by rw [hstep, hst]) ?_
                                   refine Z.j_cast (A := Z.MapP pb (Value.int .u64) (Value.int .i64) s.pm) (B := Z.MapP pb (Value.int .u64) (Value.int .i64) (es os most idle abs (i + 1)).pm) (by repeat (first | with_reducible exact Z.Take.here | apply Z.Take.there)) (by rw [hstep, hst]) ?_)
                                | (have hst := step_e (s := s) (o := o) (by omega) hc116 (by rw [hN]; exact hc92)
                                   rw [hN] at hst
                                   refine Z.j_cast (A := TabP tb (s.t.useT o.t N)) (B := TabP tb (es os most idle abs (i + 1)).t) (by repeat (first | with_reducible exact Z.Take.here | apply Z.Take.there)) (by rw [hstep, hst]) ?_
                                   refine Z.j_cast (A := Z.MapP bb (Value.int .u64) (Value.int .i64) (Z.mdel o.t s.bm)) (B := Z.MapP bb (Value.int .u64) (Value.int .i64) (es os most idle abs (i + 1)).bm) (by repeat (first | with_reducible exact Z.Take.here | apply Z.Take.there)) (by rw [hstep, hst]) ?_
                                   refine Z.j_cast (A := Z.MapP pb (Value.int .u64) (Value.int .i64) s.pm) (B := Z.MapP pb (Value.int .u64) (Value.int .i64) (es os most idle abs (i + 1)).pm) (by repeat (first | with_reducible exact Z.Take.here | apply Z.Take.there)) (by rw [hstep, hst]) ?_)
                                refine Z.j_region ?_
                                refine Z.s_val (Z.pv_move rfl) ?_
                                refine Z.s_callD rfl rfl rfl isFn13 (by repeat (first | with_reducible exact Z.Takes.nil | (apply Z.Takes.cons; (repeat (first | with_reducible exact Z.Take.here | apply Z.Take.there))))) (by repeat (first | exact Z.App.nil | apply Z.App.cons)) (len_spec _ tb (es os most idle abs (i + 1)).t) ?_
                                refine Z.s_val (Z.pv_move rfl) ?_
                                refine Z.s_val (Z.pv_gtr rfl rfl) ?_
                                refine Z.j_nil ?_
                                refine Z.j_then ?_
                                refine Z.j_cond rfl (fun hc128 => ?_) (fun hc128 => ?_)
                                · try (with_reducible first | replace hc128 := of_decide_eq_true hc128 | replace hc128 := of_decide_eq_false hc128 | replace hc128 := Z.nd_true hc128 | replace hc128 := Z.nd_false hc128 | replace hc128 := Z.nn_true hc128 | replace hc128 := Z.nn_false hc128 | replace hc128 := Z.nb_true hc128 | replace hc128 := Z.nb_false hc128)
                                  have := hEI2.len; omega
                                · try (with_reducible first | replace hc128 := of_decide_eq_true hc128 | replace hc128 := of_decide_eq_false hc128 | replace hc128 := Z.nd_true hc128 | replace hc128 := Z.nd_false hc128 | replace hc128 := Z.nn_true hc128 | replace hc128 := Z.nn_false hc128 | replace hc128 := Z.nb_true hc128 | replace hc128 := Z.nb_false hc128)
                                  first
                                  | (exfalso; first | (cases hc128; done) | omega)
                                  | skip
                                    refine Z.j_skip ?_
                                    refine Z.j_blk ?_
                                    refine Z.j_then ?_
                                    refine Z.j_region ?_
                                    refine Z.s_val (Z.pv_add rfl rfl (by first | exact IntWalk.i64_in _ (by omega) | rfl)) ?_
                                    refine Z.s_val (Z.pv_move rfl) ?_
                                    refine Z.j_nil ?_
                                    refine Z.j_then ?_
                                    refine Z.s_is 13 rfl (show _ = Value.int .i64 (es os most idle abs (i + 1)).now from by rw [hstep, step_now, hN]) ?_
                                    (refine Z.j_nextG (X := { x : (Nat) // (x) ≤ n1 }) (EE := (fun (x : { x : (Nat) // (x) ≤ n1 }) => [(0, .int .i64 most), (1, .int .i64 idle), (2, .int .i64 abs), (3, .slice p1 n1 cap1), (9, .pointer (some ⟨tb, 0, none⟩)), (11, .map (some bb)), (12, .map (some pb)), (13, .int .i64 (es os most idle abs (x.1)).now), (42, .slice p1 n1 cap1), (43, .int .i64 n1), (44, .int .i64 ((x.1) : Nat))])) (LL := (fun (x : { x : (Nat) // (x) ≤ n1 }) => [TabP tb (es os most idle abs (x.1)).t, Z.MapP bb (Value.int .u64) (Value.int .i64) (es os most idle abs (x.1)).bm, Z.MapP pb (Value.int .u64) (Value.int .i64) (es os most idle abs (x.1)).pm])) (μ := (fun (x : { x : (Nat) // (x) ≤ n1 }) => n1 - (x.1))) (x := ⟨(i), hinv⟩) ⟨(i + 1), by omega⟩ ?_ ?_ ?_; (show n1 - (i + 1) < n1 - i; omega); (exact (by repeat (first | exact trivial | refine ⟨rfl, ?_⟩))); (exact Z.st_td (by repeat (first | with_reducible exact Z.Takes.nil | (apply Z.Takes.cons; (repeat (first | with_reducible exact Z.Take.here | apply Z.Take.there))))) (by repeat (first | with_reducible exact Z.Drop.nil | apply Z.Drop.cons))))
                          · try (with_reducible first | replace hc106 := of_decide_eq_true hc106 | replace hc106 := of_decide_eq_false hc106 | replace hc106 := Z.nd_true hc106 | replace hc106 := Z.nd_false hc106 | replace hc106 := Z.nn_true hc106 | replace hc106 := Z.nn_false hc106 | replace hc106 := Z.nb_true hc106 | replace hc106 := Z.nb_false hc106)
                            first
                            | (exfalso; first | (cases hc106; done) | omega)
                            | skip
                              refine Z.j_skip ?_
                              refine Z.j_blk ?_
                              refine Z.j_then ?_
                              refine Z.j_seq ?_
                              first
                              | (have hst := step_a (s := s) (o := o) (by omega) (by rw [hN]; exact hc106)
                                 rw [hN] at hst
                                 refine Z.j_cast (A := TabP tb (s.t.openT o.p o.t N)) (B := TabP tb (es os most idle abs (i + 1)).t) (by repeat (first | with_reducible exact Z.Take.here | apply Z.Take.there)) (by rw [hstep, hst]) ?_
                                 refine Z.j_cast (A := Z.MapP bb (Value.int .u64) (Value.int .i64) (Z.mput o.t N s.bm)) (B := Z.MapP bb (Value.int .u64) (Value.int .i64) (es os most idle abs (i + 1)).bm) (by repeat (first | with_reducible exact Z.Take.here | apply Z.Take.there)) (by rw [hstep, hst]) ?_
                                 refine Z.j_cast (A := Z.MapP pb (Value.int .u64) (Value.int .i64) (Z.mput o.t o.p s.pm)) (B := Z.MapP pb (Value.int .u64) (Value.int .i64) (es os most idle abs (i + 1)).pm) (by repeat (first | with_reducible exact Z.Take.here | apply Z.Take.there)) (by rw [hstep, hst]) ?_)
                              | (have hst := step_b (s := s) (o := o) (by omega) (by rw [hN]; exact hc106)
                                 rw [hN] at hst
                                 refine Z.j_cast (A := TabP tb (s.t.openT o.p o.t N)) (B := TabP tb (es os most idle abs (i + 1)).t) (by repeat (first | with_reducible exact Z.Take.here | apply Z.Take.there)) (by rw [hstep, hst]) ?_
                                 refine Z.j_cast (A := Z.MapP bb (Value.int .u64) (Value.int .i64) s.bm) (B := Z.MapP bb (Value.int .u64) (Value.int .i64) (es os most idle abs (i + 1)).bm) (by repeat (first | with_reducible exact Z.Take.here | apply Z.Take.there)) (by rw [hstep, hst]) ?_
                                 refine Z.j_cast (A := Z.MapP pb (Value.int .u64) (Value.int .i64) s.pm) (B := Z.MapP pb (Value.int .u64) (Value.int .i64) (es os most idle abs (i + 1)).pm) (by repeat (first | with_reducible exact Z.Take.here | apply Z.Take.there)) (by rw [hstep, hst]) ?_)
                              | (have hst := step_c (s := s) (o := o) (by omega) hc116
                                 rw [hN] at hst
                                 refine Z.j_cast (A := TabP tb (s.t.close o.t)) (B := TabP tb (es os most idle abs (i + 1)).t) (by repeat (first | with_reducible exact Z.Take.here | apply Z.Take.there)) (by rw [hstep, hst]) ?_
                                 refine Z.j_cast (A := Z.MapP bb (Value.int .u64) (Value.int .i64) (Z.mdel o.t s.bm)) (B := Z.MapP bb (Value.int .u64) (Value.int .i64) (es os most idle abs (i + 1)).bm) (by repeat (first | with_reducible exact Z.Take.here | apply Z.Take.there)) (by rw [hstep, hst]) ?_
                                 refine Z.j_cast (A := Z.MapP pb (Value.int .u64) (Value.int .i64) s.pm) (B := Z.MapP pb (Value.int .u64) (Value.int .i64) (es os most idle abs (i + 1)).pm) (by repeat (first | with_reducible exact Z.Take.here | apply Z.Take.there)) (by rw [hstep, hst]) ?_)
                              | (have hst := step_d (s := s) (o := o) (by omega) hc116 (by rw [hN]; exact hc92)
                                 rw [hN] at hst
                                 refine Z.j_cast (A := TabP tb (s.t.useT o.t N)) (B := TabP tb (es os most idle abs (i + 1)).t) (by repeat (first | with_reducible exact Z.Take.here | apply Z.Take.there)) (by rw [hstep, hst]) ?_
                                 refine Z.j_cast (A := Z.MapP bb (Value.int .u64) (Value.int .i64) s.bm) (B := Z.MapP bb (Value.int .u64) (Value.int .i64) (es os most idle abs (i + 1)).bm) (by repeat (first | with_reducible exact Z.Take.here | apply Z.Take.there)) (by rw [hstep, hst]) ?_
                                 refine Z.j_cast (A := Z.MapP pb (Value.int .u64) (Value.int .i64) s.pm) (B := Z.MapP pb (Value.int .u64) (Value.int .i64) (es os most idle abs (i + 1)).pm) (by repeat (first | with_reducible exact Z.Take.here | apply Z.Take.there)) (by rw [hstep, hst]) ?_)
                              | (have hst := step_e (s := s) (o := o) (by omega) hc116 (by rw [hN]; exact hc92)
                                 rw [hN] at hst
                                 refine Z.j_cast (A := TabP tb (s.t.useT o.t N)) (B := TabP tb (es os most idle abs (i + 1)).t) (by repeat (first | with_reducible exact Z.Take.here | apply Z.Take.there)) (by rw [hstep, hst]) ?_
                                 refine Z.j_cast (A := Z.MapP bb (Value.int .u64) (Value.int .i64) (Z.mdel o.t s.bm)) (B := Z.MapP bb (Value.int .u64) (Value.int .i64) (es os most idle abs (i + 1)).bm) (by repeat (first | with_reducible exact Z.Take.here | apply Z.Take.there)) (by rw [hstep, hst]) ?_
                                 refine Z.j_cast (A := Z.MapP pb (Value.int .u64) (Value.int .i64) s.pm) (B := Z.MapP pb (Value.int .u64) (Value.int .i64) (es os most idle abs (i + 1)).pm) (by repeat (first | with_reducible exact Z.Take.here | apply Z.Take.there)) (by rw [hstep, hst]) ?_)
                              refine Z.j_region ?_
                              refine Z.s_val (Z.pv_move rfl) ?_
                              refine Z.s_callD rfl rfl rfl isFn13 (by repeat (first | with_reducible exact Z.Takes.nil | (apply Z.Takes.cons; (repeat (first | with_reducible exact Z.Take.here | apply Z.Take.there))))) (by repeat (first | exact Z.App.nil | apply Z.App.cons)) (len_spec _ tb (es os most idle abs (i + 1)).t) ?_
                              refine Z.s_val (Z.pv_move rfl) ?_
                              refine Z.s_val (Z.pv_gtr rfl rfl) ?_
                              refine Z.j_nil ?_
                              refine Z.j_then ?_
                              refine Z.j_cond rfl (fun hc128 => ?_) (fun hc128 => ?_)
                              · try (with_reducible first | replace hc128 := of_decide_eq_true hc128 | replace hc128 := of_decide_eq_false hc128 | replace hc128 := Z.nd_true hc128 | replace hc128 := Z.nd_false hc128 | replace hc128 := Z.nn_true hc128 | replace hc128 := Z.nn_false hc128 | replace hc128 := Z.nb_true hc128 | replace hc128 := Z.nb_false hc128)
                                have := hEI2.len; omega
                              · try (with_reducible first | replace hc128 := of_decide_eq_true hc128 | replace hc128 := of_decide_eq_false hc128 | replace hc128 := Z.nd_true hc128 | replace hc128 := Z.nd_false hc128 | replace hc128 := Z.nn_true hc128 | replace hc128 := Z.nn_false hc128 | replace hc128 := Z.nb_true hc128 | replace hc128 := Z.nb_false hc128)
                                first
                                | (exfalso; first | (cases hc128; done) | omega)
                                | skip
                                  refine Z.j_skip ?_
                                  refine Z.j_blk ?_
                                  refine Z.j_then ?_
                                  refine Z.j_region ?_
                                  refine Z.s_val (Z.pv_add rfl rfl (by first | exact IntWalk.i64_in _ (by omega) | rfl)) ?_
                                  refine Z.s_val (Z.pv_move rfl) ?_
                                  refine Z.j_nil ?_
                                  refine Z.j_then ?_
                                  refine Z.s_is 13 rfl (show _ = Value.int .i64 (es os most idle abs (i + 1)).now from by rw [hstep, step_now, hN]) ?_
                                  (refine Z.j_nextG (X := { x : (Nat) // (x) ≤ n1 }) (EE := (fun (x : { x : (Nat) // (x) ≤ n1 }) => [(0, .int .i64 most), (1, .int .i64 idle), (2, .int .i64 abs), (3, .slice p1 n1 cap1), (9, .pointer (some ⟨tb, 0, none⟩)), (11, .map (some bb)), (12, .map (some pb)), (13, .int .i64 (es os most idle abs (x.1)).now), (42, .slice p1 n1 cap1), (43, .int .i64 n1), (44, .int .i64 ((x.1) : Nat))])) (LL := (fun (x : { x : (Nat) // (x) ≤ n1 }) => [TabP tb (es os most idle abs (x.1)).t, Z.MapP bb (Value.int .u64) (Value.int .i64) (es os most idle abs (x.1)).bm, Z.MapP pb (Value.int .u64) (Value.int .i64) (es os most idle abs (x.1)).pm])) (μ := (fun (x : { x : (Nat) // (x) ≤ n1 }) => n1 - (x.1))) (x := ⟨(i), hinv⟩) ⟨(i + 1), by omega⟩ ?_ ?_ ?_; (show n1 - (i + 1) < n1 - i; omega); (exact (by repeat (first | exact trivial | refine ⟨rfl, ?_⟩))); (exact Z.st_td (by repeat (first | with_reducible exact Z.Takes.nil | (apply Z.Takes.cons; (repeat (first | with_reducible exact Z.Take.here | apply Z.Take.there))))) (by repeat (first | with_reducible exact Z.Drop.nil | apply Z.Drop.cons))))
                      · exfalso; first | (cases hc96; done) | (simp at hc96; done) | (simp at hc96; omega)
                  · try (with_reducible first | replace hc96 := of_decide_eq_true hc96 | replace hc96 := of_decide_eq_false hc96 | replace hc96 := Z.nd_true hc96 | replace hc96 := Z.nd_false hc96 | replace hc96 := Z.nn_true hc96 | replace hc96 := Z.nn_false hc96 | replace hc96 := Z.nb_true hc96 | replace hc96 := Z.nb_false hc96)
                    first
                    | (exfalso; first | (cases hc96; done) | omega)
                    | skip
                      refine Z.j_region ?_
                      refine Z.s_val (Z.pv_eql rfl rfl) ?_
                      refine Z.s_val (Z.pv_assign rfl) ?_
                      refine Z.j_nil ?_
                      refine Z.j_then ?_
                      refine Z.j_cond rfl (fun hc96 => ?_) (fun hc96 => ?_)
                      · try (with_reducible first | replace hc96 := of_decide_eq_true hc96 | replace hc96 := of_decide_eq_false hc96 | replace hc96 := Z.nd_true hc96 | replace hc96 := Z.nd_false hc96 | replace hc96 := Z.nn_true hc96 | replace hc96 := Z.nn_false hc96 | replace hc96 := Z.nb_true hc96 | replace hc96 := Z.nb_false hc96)
                        first
                        | (exfalso; first | (cases hc96; done) | omega)
                        | skip
                          refine Z.j_seq ?_
                          refine Z.j_region ?_
                          refine Z.s_val (Z.pv_move rfl) ?_
                          refine Z.s_val (Z.pv_fieldAddr (o' := 1) rfl Try.underlying33 rfl Try.sizeOf3 rfl) ?_
                          refine Z.s_val (Z.pv_load1 rfl (by repeat (first | with_reducible exact Z.Take.here | apply Z.Take.there)) Try.isAgg3 (by rfl)) ?_
                          refine Z.s_val (Z.pv_fieldAddr (o' := 2) rfl Try.underlying33 rfl Try.sizeOf31 rfl) ?_
                          refine Z.s_val (Z.pv_load1 rfl (by repeat (first | with_reducible exact Z.Take.here | apply Z.Take.there)) Try.isAgg31 (by rfl)) ?_
                          refine Z.s_val (Z.pv_move rfl) ?_
                          refine Z.s_callD rfl rfl rfl isFn10 (by repeat (first | with_reducible exact Z.Takes.nil | (apply Z.Takes.cons; (repeat (first | with_reducible exact Z.Take.here | apply Z.Take.there))))) (by repeat (first | exact Z.App.nil | apply Z.App.cons)) (open_spec _ tb s.t o.p o.t N hok) ?_
                          refine Z.s_val (Z.pv_eql rfl rfl) ?_
                          refine Z.j_nil ?_
                          refine Z.j_then ?_
                          refine Z.j_cond rfl (fun hc106 => ?_) (fun hc106 => ?_)
                          · try (with_reducible first | replace hc106 := of_decide_eq_true hc106 | replace hc106 := of_decide_eq_false hc106 | replace hc106 := Z.nd_true hc106 | replace hc106 := Z.nd_false hc106 | replace hc106 := Z.nn_true hc106 | replace hc106 := Z.nn_false hc106 | replace hc106 := Z.nb_true hc106 | replace hc106 := Z.nb_false hc106)
                            first
                            | (exfalso; first | (cases hc106; done) | omega)
                            | skip
                              refine Z.j_drawT [⟨none, none, [2, 5, 8], fun ρ => Z.cl b15 33 [.int .i64 o.k, .int .i64 o.p, .int .u64 o.t, .int .i64 o.n]⟩, ⟨none, (some 9), [], fun ρ => Z.MapP bb (Value.int .u64) (Value.int .i64) s.bm⟩, ⟨(some 9), none, [], fun ρ => Z.MapP bb (Value.int .u64) (Value.int .i64) (Z.mput o.t N s.bm)⟩, ⟨none, (some 10), [], fun ρ => Z.MapP pb (Value.int .u64) (Value.int .i64) s.pm⟩, ⟨(some 10), none, [], fun ρ => Z.MapP pb (Value.int .u64) (Value.int .i64) (Z.mput o.t o.p s.pm)⟩] [9, 10] (fun ρ => [.map (some bb), .pointer (some ⟨b15, 2, none⟩), .int .u64 o.t, .map (some pb), .pointer (some ⟨b15, 2, none⟩), .int .u64 o.t, .int .i64 N, .pointer (some ⟨b15, 1, none⟩), .int .i64 o.p, ρ 9, ρ 10]) (by kernel_rfl) (by kernel_rfl) (by rfl) (fun _ => rfl) ⟨fun _ => rfl, fun _ _ => rfl, fun _ _ => rfl, ⟨fun _ => rfl, fun _ _ => rfl, fun _ _ => rfl, trivial⟩⟩ (fun ρ => (by repeat (first | with_reducible exact Z.Takes.nil | (apply Z.Takes.cons; (repeat (first | with_reducible exact Z.Take.here | apply Z.Take.there))) | exact Z.Takes.nil))) ?_ (fun ρ => ?_)
                              · skip
                                refine Z.tops_cons ?_ ?_
                                · refine Z.top_q (fun ρ => .map (some bb)) rfl (fun _ => rfl) (fun ρ Rr => ?_)
                                  show Z.HQ _ _ _ _ _ _ (Rr) _ _
                                  exact (Z.hq_val (Z.pv_move rfl))
                                refine Z.tops_cons ?_ ?_
                                · refine Z.top_q (fun ρ => .pointer (some ⟨b15, 2, none⟩)) rfl (fun _ => rfl) (fun ρ Rr => ?_)
                                  show Z.HQ _ _ _ _ _ _ (Rr) _ _
                                  exact (Z.hq_val (Z.pv_fieldAddr (o' := 2) rfl Try.underlying33 rfl Try.sizeOf31 rfl))
                                refine Z.tops_cons ?_ ?_
                                · refine Z.top_q (fun ρ => .int .u64 o.t) rfl (fun _ => rfl) (fun ρ Rr => ?_)
                                  show Z.HQ _ _ _ _ _ _ (Z.cl b15 33 [.int .i64 o.k, .int .i64 o.p, .int .u64 o.t, .int .i64 o.n] :: Rr) _ _
                                  exact (Z.hq_val (Z.pv_load1 rfl (by repeat (first | with_reducible exact Z.Take.here | apply Z.Take.there)) Try.isAgg31 (by rfl)))
                                refine Z.tops_cons ?_ ?_
                                · refine Z.top_q (fun ρ => .map (some pb)) rfl (fun _ => rfl) (fun ρ Rr => ?_)
                                  show Z.HQ _ _ _ _ _ _ (Rr) _ _
                                  exact (Z.hq_val (Z.pv_move rfl))
                                refine Z.tops_cons ?_ ?_
                                · refine Z.top_q (fun ρ => .pointer (some ⟨b15, 2, none⟩)) rfl (fun _ => rfl) (fun ρ Rr => ?_)
                                  show Z.HQ _ _ _ _ _ _ (Rr) _ _
                                  exact (Z.hq_val (Z.pv_fieldAddr (o' := 2) rfl Try.underlying33 rfl Try.sizeOf31 rfl))
                                refine Z.tops_cons ?_ ?_
                                · refine Z.top_q (fun ρ => .int .u64 o.t) rfl (fun _ => rfl) (fun ρ Rr => ?_)
                                  show Z.HQ _ _ _ _ _ _ (Z.cl b15 33 [.int .i64 o.k, .int .i64 o.p, .int .u64 o.t, .int .i64 o.n] :: Rr) _ _
                                  exact (Z.hq_val (Z.pv_load1 rfl (by repeat (first | with_reducible exact Z.Take.here | apply Z.Take.there)) Try.isAgg31 (by rfl)))
                                refine Z.tops_cons ?_ ?_
                                · refine Z.top_q (fun ρ => .int .i64 N) rfl (fun _ => rfl) (fun ρ Rr => ?_)
                                  show Z.HQ _ _ _ _ _ _ (Rr) _ _
                                  exact (Z.hq_val (Z.pv_move rfl))
                                refine Z.tops_cons ?_ ?_
                                · refine Z.top_q (fun ρ => .pointer (some ⟨b15, 1, none⟩)) rfl (fun _ => rfl) (fun ρ Rr => ?_)
                                  show Z.HQ _ _ _ _ _ _ (Rr) _ _
                                  exact (Z.hq_val (Z.pv_fieldAddr (o' := 1) rfl Try.underlying33 rfl Try.sizeOf3 rfl))
                                refine Z.tops_cons ?_ ?_
                                · refine Z.top_q (fun ρ => .int .i64 o.p) rfl (fun _ => rfl) (fun ρ Rr => ?_)
                                  show Z.HQ _ _ _ _ _ _ (Z.cl b15 33 [.int .i64 o.k, .int .i64 o.p, .int .u64 o.t, .int .i64 o.n] :: Rr) _ _
                                  exact (Z.hq_val (Z.pv_load1 rfl (by repeat (first | with_reducible exact Z.Take.here | apply Z.Take.there)) Try.isAgg3 (by rfl)))
                                refine Z.tops_cons ?_ ?_
                                · refine Z.top_c rfl (fun ρ Rr => ?_)
                                  refine Z.hn_of0 rfl (by rfl) rfl ?_
                                  show Z.J _ _ _ _ ([Z.MapP bb (Value.int .u64) (Value.int .i64) s.bm] ++ Rr) _
                                  refine Z.j_app (by repeat (first | exact Z.App.nil | apply Z.App.cons)) ?_
                                  refine Z.s_mapUpdate (k := o.t) (v := N) rfl rfl rfl Try.underlying29 kU64 (by repeat (first | with_reducible exact Z.Take.here | apply Z.Take.there)) ?_
                                  refine Z.j_nil ?_
                                  refine Z.hn_end0 (fun _ => Z.st_td (by repeat (first | with_reducible exact Z.Takes.nil | (apply Z.Takes.cons; (repeat (first | exact Z.Take.here | apply Z.Take.there))) | exact Z.Takes.nil)) (by repeat (first | with_reducible exact Z.Drop.nil | apply Z.Drop.cons)))
                                refine Z.tops_cons ?_ ?_
                                · refine Z.top_c rfl (fun ρ Rr => ?_)
                                  refine Z.hn_of0 rfl (by rfl) rfl ?_
                                  show Z.J _ _ _ _ ([Z.MapP pb (Value.int .u64) (Value.int .i64) s.pm] ++ Rr) _
                                  refine Z.j_app (by repeat (first | exact Z.App.nil | apply Z.App.cons)) ?_
                                  refine Z.s_mapUpdate (k := o.t) (v := o.p) rfl rfl rfl Try.underlying30 kU64 (by repeat (first | with_reducible exact Z.Take.here | apply Z.Take.there)) ?_
                                  refine Z.j_nil ?_
                                  refine Z.hn_end0 (fun _ => Z.st_td (by repeat (first | with_reducible exact Z.Takes.nil | (apply Z.Takes.cons; (repeat (first | exact Z.Take.here | apply Z.Take.there))) | exact Z.Takes.nil)) (by repeat (first | with_reducible exact Z.Drop.nil | apply Z.Drop.cons)))
                                exact Z.tops_nil
                              · show Z.J _ _ _ _ ([Z.cl b15 33 [.int .i64 o.k, .int .i64 o.p, .int .u64 o.t, .int .i64 o.n], Z.MapP bb (Value.int .u64) (Value.int .i64) (Z.mput o.t N s.bm), Z.MapP pb (Value.int .u64) (Value.int .i64) (Z.mput o.t o.p s.pm)] ++ _) _
                                refine Z.j_app (by repeat (first | exact Z.App.nil | apply Z.App.cons)) ?_
                                refine Z.j_blk ?_
                                refine Z.j_then ?_
                                refine Z.j_seq ?_
                                first
                                | (have hst := step_a (s := s) (o := o) (by omega) (by rw [hN]; exact hc106)
                                   rw [hN] at hst
                                   refine Z.j_cast (A := TabP tb (s.t.openT o.p o.t N)) (B := TabP tb (es os most idle abs (i + 1)).t) (by repeat (first | with_reducible exact Z.Take.here | apply Z.Take.there)) (by rw [hstep, hst]) ?_
                                   refine Z.j_cast (A := Z.MapP bb (Value.int .u64) (Value.int .i64) (Z.mput o.t N s.bm)) (B := Z.MapP bb (Value.int .u64) (Value.int .i64) (es os most idle abs (i + 1)).bm) (by repeat (first | with_reducible exact Z.Take.here | apply Z.Take.there)) (by rw [hstep, hst]) ?_
                                   refine Z.j_cast (A := Z.MapP pb (Value.int .u64) (Value.int .i64) (Z.mput o.t o.p s.pm)) (B := Z.MapP pb (Value.int .u64) (Value.int .i64) (es os most idle abs (i + 1)).pm) (by repeat (first | with_reducible exact Z.Take.here | apply Z.Take.there)) (by rw [hstep, hst]) ?_)
                                | (have hst := step_b (s := s) (o := o) (by omega) (by rw [hN]; exact hc106)
                                   rw [hN] at hst
                                   refine Z.j_cast (A := TabP tb (s.t.openT o.p o.t N)) (B := TabP tb (es os most idle abs (i + 1)).t) (by repeat (first | with_reducible exact Z.Take.here | apply Z.Take.there)) (by rw [hstep, hst]) ?_
                                   refine Z.j_cast (A := Z.MapP bb (Value.int .u64) (Value.int .i64) s.bm) (B := Z.MapP bb (Value.int .u64) (Value.int .i64) (es os most idle abs (i + 1)).bm) (by repeat (first | with_reducible exact Z.Take.here | apply Z.Take.there)) (by rw [hstep, hst]) ?_
                                   refine Z.j_cast (A := Z.MapP pb (Value.int .u64) (Value.int .i64) s.pm) (B := Z.MapP pb (Value.int .u64) (Value.int .i64) (es os most idle abs (i + 1)).pm) (by repeat (first | with_reducible exact Z.Take.here | apply Z.Take.there)) (by rw [hstep, hst]) ?_)
                                | (have hst := step_c (s := s) (o := o) (by omega) hc116
                                   rw [hN] at hst
                                   refine Z.j_cast (A := TabP tb (s.t.close o.t)) (B := TabP tb (es os most idle abs (i + 1)).t) (by repeat (first | with_reducible exact Z.Take.here | apply Z.Take.there)) (by rw [hstep, hst]) ?_
                                   refine Z.j_cast (A := Z.MapP bb (Value.int .u64) (Value.int .i64) (Z.mdel o.t s.bm)) (B := Z.MapP bb (Value.int .u64) (Value.int .i64) (es os most idle abs (i + 1)).bm) (by repeat (first | with_reducible exact Z.Take.here | apply Z.Take.there)) (by rw [hstep, hst]) ?_
                                   refine Z.j_cast (A := Z.MapP pb (Value.int .u64) (Value.int .i64) s.pm) (B := Z.MapP pb (Value.int .u64) (Value.int .i64) (es os most idle abs (i + 1)).pm) (by repeat (first | with_reducible exact Z.Take.here | apply Z.Take.there)) (by rw [hstep, hst]) ?_)
                                | (have hst := step_d (s := s) (o := o) (by omega) hc116 (by rw [hN]; exact hc92)
                                   rw [hN] at hst
                                   refine Z.j_cast (A := TabP tb (s.t.useT o.t N)) (B := TabP tb (es os most idle abs (i + 1)).t) (by repeat (first | with_reducible exact Z.Take.here | apply Z.Take.there)) (by rw [hstep, hst]) ?_
                                   refine Z.j_cast (A := Z.MapP bb (Value.int .u64) (Value.int .i64) s.bm) (B := Z.MapP bb (Value.int .u64) (Value.int .i64) (es os most idle abs (i + 1)).bm) (by repeat (first | with_reducible exact Z.Take.here | apply Z.Take.there)) (by rw [hstep, hst]) ?_
                                   refine Z.j_cast (A := Z.MapP pb (Value.int .u64) (Value.int .i64) s.pm) (B := Z.MapP pb (Value.int .u64) (Value.int .i64) (es os most idle abs (i + 1)).pm) (by repeat (first | with_reducible exact Z.Take.here | apply Z.Take.there)) (by rw [hstep, hst]) ?_)
                                | (have hst := step_e (s := s) (o := o) (by omega) hc116 (by rw [hN]; exact hc92)
                                   rw [hN] at hst
                                   refine Z.j_cast (A := TabP tb (s.t.useT o.t N)) (B := TabP tb (es os most idle abs (i + 1)).t) (by repeat (first | with_reducible exact Z.Take.here | apply Z.Take.there)) (by rw [hstep, hst]) ?_
                                   refine Z.j_cast (A := Z.MapP bb (Value.int .u64) (Value.int .i64) (Z.mdel o.t s.bm)) (B := Z.MapP bb (Value.int .u64) (Value.int .i64) (es os most idle abs (i + 1)).bm) (by repeat (first | with_reducible exact Z.Take.here | apply Z.Take.there)) (by rw [hstep, hst]) ?_
                                   refine Z.j_cast (A := Z.MapP pb (Value.int .u64) (Value.int .i64) s.pm) (B := Z.MapP pb (Value.int .u64) (Value.int .i64) (es os most idle abs (i + 1)).pm) (by repeat (first | with_reducible exact Z.Take.here | apply Z.Take.there)) (by rw [hstep, hst]) ?_)
                                refine Z.j_region ?_
                                refine Z.s_val (Z.pv_move rfl) ?_
                                refine Z.s_callD rfl rfl rfl isFn13 (by repeat (first | with_reducible exact Z.Takes.nil | (apply Z.Takes.cons; (repeat (first | with_reducible exact Z.Take.here | apply Z.Take.there))))) (by repeat (first | exact Z.App.nil | apply Z.App.cons)) (len_spec _ tb (es os most idle abs (i + 1)).t) ?_
                                refine Z.s_val (Z.pv_move rfl) ?_
                                refine Z.s_val (Z.pv_gtr rfl rfl) ?_
                                refine Z.j_nil ?_
                                refine Z.j_then ?_
                                refine Z.j_cond rfl (fun hc128 => ?_) (fun hc128 => ?_)
                                · try (with_reducible first | replace hc128 := of_decide_eq_true hc128 | replace hc128 := of_decide_eq_false hc128 | replace hc128 := Z.nd_true hc128 | replace hc128 := Z.nd_false hc128 | replace hc128 := Z.nn_true hc128 | replace hc128 := Z.nn_false hc128 | replace hc128 := Z.nb_true hc128 | replace hc128 := Z.nb_false hc128)
                                  have := hEI2.len; omega
                                · try (with_reducible first | replace hc128 := of_decide_eq_true hc128 | replace hc128 := of_decide_eq_false hc128 | replace hc128 := Z.nd_true hc128 | replace hc128 := Z.nd_false hc128 | replace hc128 := Z.nn_true hc128 | replace hc128 := Z.nn_false hc128 | replace hc128 := Z.nb_true hc128 | replace hc128 := Z.nb_false hc128)
                                  first
                                  | (exfalso; first | (cases hc128; done) | omega)
                                  | skip
                                    refine Z.j_skip ?_
                                    refine Z.j_blk ?_
                                    refine Z.j_then ?_
                                    refine Z.j_region ?_
                                    refine Z.s_val (Z.pv_add rfl rfl (by first | exact IntWalk.i64_in _ (by omega) | rfl)) ?_
                                    refine Z.s_val (Z.pv_move rfl) ?_
                                    refine Z.j_nil ?_
                                    refine Z.j_then ?_
                                    refine Z.s_is 13 rfl (show _ = Value.int .i64 (es os most idle abs (i + 1)).now from by rw [hstep, step_now, hN]) ?_
                                    (refine Z.j_nextG (X := { x : (Nat) // (x) ≤ n1 }) (EE := (fun (x : { x : (Nat) // (x) ≤ n1 }) => [(0, .int .i64 most), (1, .int .i64 idle), (2, .int .i64 abs), (3, .slice p1 n1 cap1), (9, .pointer (some ⟨tb, 0, none⟩)), (11, .map (some bb)), (12, .map (some pb)), (13, .int .i64 (es os most idle abs (x.1)).now), (42, .slice p1 n1 cap1), (43, .int .i64 n1), (44, .int .i64 ((x.1) : Nat))])) (LL := (fun (x : { x : (Nat) // (x) ≤ n1 }) => [TabP tb (es os most idle abs (x.1)).t, Z.MapP bb (Value.int .u64) (Value.int .i64) (es os most idle abs (x.1)).bm, Z.MapP pb (Value.int .u64) (Value.int .i64) (es os most idle abs (x.1)).pm])) (μ := (fun (x : { x : (Nat) // (x) ≤ n1 }) => n1 - (x.1))) (x := ⟨(i), hinv⟩) ⟨(i + 1), by omega⟩ ?_ ?_ ?_; (show n1 - (i + 1) < n1 - i; omega); (exact (by repeat (first | exact trivial | refine ⟨rfl, ?_⟩))); (exact Z.st_td (by repeat (first | with_reducible exact Z.Takes.nil | (apply Z.Takes.cons; (repeat (first | with_reducible exact Z.Take.here | apply Z.Take.there))))) (by repeat (first | with_reducible exact Z.Drop.nil | apply Z.Drop.cons))))
                          · try (with_reducible first | replace hc106 := of_decide_eq_true hc106 | replace hc106 := of_decide_eq_false hc106 | replace hc106 := Z.nd_true hc106 | replace hc106 := Z.nd_false hc106 | replace hc106 := Z.nn_true hc106 | replace hc106 := Z.nn_false hc106 | replace hc106 := Z.nb_true hc106 | replace hc106 := Z.nb_false hc106)
                            first
                            | (exfalso; first | (cases hc106; done) | omega)
                            | skip
                              refine Z.j_skip ?_
                              refine Z.j_blk ?_
                              refine Z.j_then ?_
                              refine Z.j_seq ?_
                              first
                              | (have hst := step_a (s := s) (o := o) (by omega) (by rw [hN]; exact hc106)
                                 rw [hN] at hst
                                 refine Z.j_cast (A := TabP tb (s.t.openT o.p o.t N)) (B := TabP tb (es os most idle abs (i + 1)).t) (by repeat (first | with_reducible exact Z.Take.here | apply Z.Take.there)) (by rw [hstep, hst]) ?_
                                 refine Z.j_cast (A := Z.MapP bb (Value.int .u64) (Value.int .i64) (Z.mput o.t N s.bm)) (B := Z.MapP bb (Value.int .u64) (Value.int .i64) (es os most idle abs (i + 1)).bm) (by repeat (first | with_reducible exact Z.Take.here | apply Z.Take.there)) (by rw [hstep, hst]) ?_
                                 refine Z.j_cast (A := Z.MapP pb (Value.int .u64) (Value.int .i64) (Z.mput o.t o.p s.pm)) (B := Z.MapP pb (Value.int .u64) (Value.int .i64) (es os most idle abs (i + 1)).pm) (by repeat (first | with_reducible exact Z.Take.here | apply Z.Take.there)) (by rw [hstep, hst]) ?_)
                              | (have hst := step_b (s := s) (o := o) (by omega) (by rw [hN]; exact hc106)
                                 rw [hN] at hst
                                 refine Z.j_cast (A := TabP tb (s.t.openT o.p o.t N)) (B := TabP tb (es os most idle abs (i + 1)).t) (by repeat (first | with_reducible exact Z.Take.here | apply Z.Take.there)) (by rw [hstep, hst]) ?_
                                 refine Z.j_cast (A := Z.MapP bb (Value.int .u64) (Value.int .i64) s.bm) (B := Z.MapP bb (Value.int .u64) (Value.int .i64) (es os most idle abs (i + 1)).bm) (by repeat (first | with_reducible exact Z.Take.here | apply Z.Take.there)) (by rw [hstep, hst]) ?_
                                 refine Z.j_cast (A := Z.MapP pb (Value.int .u64) (Value.int .i64) s.pm) (B := Z.MapP pb (Value.int .u64) (Value.int .i64) (es os most idle abs (i + 1)).pm) (by repeat (first | with_reducible exact Z.Take.here | apply Z.Take.there)) (by rw [hstep, hst]) ?_)
                              | (have hst := step_c (s := s) (o := o) (by omega) hc116
                                 rw [hN] at hst
                                 refine Z.j_cast (A := TabP tb (s.t.close o.t)) (B := TabP tb (es os most idle abs (i + 1)).t) (by repeat (first | with_reducible exact Z.Take.here | apply Z.Take.there)) (by rw [hstep, hst]) ?_
                                 refine Z.j_cast (A := Z.MapP bb (Value.int .u64) (Value.int .i64) (Z.mdel o.t s.bm)) (B := Z.MapP bb (Value.int .u64) (Value.int .i64) (es os most idle abs (i + 1)).bm) (by repeat (first | with_reducible exact Z.Take.here | apply Z.Take.there)) (by rw [hstep, hst]) ?_
                                 refine Z.j_cast (A := Z.MapP pb (Value.int .u64) (Value.int .i64) s.pm) (B := Z.MapP pb (Value.int .u64) (Value.int .i64) (es os most idle abs (i + 1)).pm) (by repeat (first | with_reducible exact Z.Take.here | apply Z.Take.there)) (by rw [hstep, hst]) ?_)
                              | (have hst := step_d (s := s) (o := o) (by omega) hc116 (by rw [hN]; exact hc92)
                                 rw [hN] at hst
                                 refine Z.j_cast (A := TabP tb (s.t.useT o.t N)) (B := TabP tb (es os most idle abs (i + 1)).t) (by repeat (first | with_reducible exact Z.Take.here | apply Z.Take.there)) (by rw [hstep, hst]) ?_
                                 refine Z.j_cast (A := Z.MapP bb (Value.int .u64) (Value.int .i64) s.bm) (B := Z.MapP bb (Value.int .u64) (Value.int .i64) (es os most idle abs (i + 1)).bm) (by repeat (first | with_reducible exact Z.Take.here | apply Z.Take.there)) (by rw [hstep, hst]) ?_
                                 refine Z.j_cast (A := Z.MapP pb (Value.int .u64) (Value.int .i64) s.pm) (B := Z.MapP pb (Value.int .u64) (Value.int .i64) (es os most idle abs (i + 1)).pm) (by repeat (first | with_reducible exact Z.Take.here | apply Z.Take.there)) (by rw [hstep, hst]) ?_)
                              | (have hst := step_e (s := s) (o := o) (by omega) hc116 (by rw [hN]; exact hc92)
                                 rw [hN] at hst
                                 refine Z.j_cast (A := TabP tb (s.t.useT o.t N)) (B := TabP tb (es os most idle abs (i + 1)).t) (by repeat (first | with_reducible exact Z.Take.here | apply Z.Take.there)) (by rw [hstep, hst]) ?_
                                 refine Z.j_cast (A := Z.MapP bb (Value.int .u64) (Value.int .i64) (Z.mdel o.t s.bm)) (B := Z.MapP bb (Value.int .u64) (Value.int .i64) (es os most idle abs (i + 1)).bm) (by repeat (first | with_reducible exact Z.Take.here | apply Z.Take.there)) (by rw [hstep, hst]) ?_
                                 refine Z.j_cast (A := Z.MapP pb (Value.int .u64) (Value.int .i64) s.pm) (B := Z.MapP pb (Value.int .u64) (Value.int .i64) (es os most idle abs (i + 1)).pm) (by repeat (first | with_reducible exact Z.Take.here | apply Z.Take.there)) (by rw [hstep, hst]) ?_)
                              refine Z.j_region ?_
                              refine Z.s_val (Z.pv_move rfl) ?_
                              refine Z.s_callD rfl rfl rfl isFn13 (by repeat (first | with_reducible exact Z.Takes.nil | (apply Z.Takes.cons; (repeat (first | with_reducible exact Z.Take.here | apply Z.Take.there))))) (by repeat (first | exact Z.App.nil | apply Z.App.cons)) (len_spec _ tb (es os most idle abs (i + 1)).t) ?_
                              refine Z.s_val (Z.pv_move rfl) ?_
                              refine Z.s_val (Z.pv_gtr rfl rfl) ?_
                              refine Z.j_nil ?_
                              refine Z.j_then ?_
                              refine Z.j_cond rfl (fun hc128 => ?_) (fun hc128 => ?_)
                              · try (with_reducible first | replace hc128 := of_decide_eq_true hc128 | replace hc128 := of_decide_eq_false hc128 | replace hc128 := Z.nd_true hc128 | replace hc128 := Z.nd_false hc128 | replace hc128 := Z.nn_true hc128 | replace hc128 := Z.nn_false hc128 | replace hc128 := Z.nb_true hc128 | replace hc128 := Z.nb_false hc128)
                                have := hEI2.len; omega
                              · try (with_reducible first | replace hc128 := of_decide_eq_true hc128 | replace hc128 := of_decide_eq_false hc128 | replace hc128 := Z.nd_true hc128 | replace hc128 := Z.nd_false hc128 | replace hc128 := Z.nn_true hc128 | replace hc128 := Z.nn_false hc128 | replace hc128 := Z.nb_true hc128 | replace hc128 := Z.nb_false hc128)
                                first
                                | (exfalso; first | (cases hc128; done) | omega)
                                | skip
                                  refine Z.j_skip ?_
                                  refine Z.j_blk ?_
                                  refine Z.j_then ?_
                                  refine Z.j_region ?_
                                  refine Z.s_val (Z.pv_add rfl rfl (by first | exact IntWalk.i64_in _ (by omega) | rfl)) ?_
                                  refine Z.s_val (Z.pv_move rfl) ?_
                                  refine Z.j_nil ?_
                                  refine Z.j_then ?_
                                  refine Z.s_is 13 rfl (show _ = Value.int .i64 (es os most idle abs (i + 1)).now from by rw [hstep, step_now, hN]) ?_
                                  (refine Z.j_nextG (X := { x : (Nat) // (x) ≤ n1 }) (EE := (fun (x : { x : (Nat) // (x) ≤ n1 }) => [(0, .int .i64 most), (1, .int .i64 idle), (2, .int .i64 abs), (3, .slice p1 n1 cap1), (9, .pointer (some ⟨tb, 0, none⟩)), (11, .map (some bb)), (12, .map (some pb)), (13, .int .i64 (es os most idle abs (x.1)).now), (42, .slice p1 n1 cap1), (43, .int .i64 n1), (44, .int .i64 ((x.1) : Nat))])) (LL := (fun (x : { x : (Nat) // (x) ≤ n1 }) => [TabP tb (es os most idle abs (x.1)).t, Z.MapP bb (Value.int .u64) (Value.int .i64) (es os most idle abs (x.1)).bm, Z.MapP pb (Value.int .u64) (Value.int .i64) (es os most idle abs (x.1)).pm])) (μ := (fun (x : { x : (Nat) // (x) ≤ n1 }) => n1 - (x.1))) (x := ⟨(i), hinv⟩) ⟨(i + 1), by omega⟩ ?_ ?_ ?_; (show n1 - (i + 1) < n1 - i; omega); (exact (by repeat (first | exact trivial | refine ⟨rfl, ?_⟩))); (exact Z.st_td (by repeat (first | with_reducible exact Z.Takes.nil | (apply Z.Takes.cons; (repeat (first | with_reducible exact Z.Take.here | apply Z.Take.there))))) (by repeat (first | with_reducible exact Z.Drop.nil | apply Z.Drop.cons))))
                      · try (with_reducible first | replace hc96 := of_decide_eq_true hc96 | replace hc96 := of_decide_eq_false hc96 | replace hc96 := Z.nd_true hc96 | replace hc96 := Z.nd_false hc96 | replace hc96 := Z.nn_true hc96 | replace hc96 := Z.nn_false hc96 | replace hc96 := Z.nb_true hc96 | replace hc96 := Z.nb_false hc96)
                        first
                        | (exfalso; first | (cases hc96; done) | omega)
                        | skip
                          refine Z.j_seq ?_
                          refine Z.j_region ?_
                          refine Z.s_val (Z.pv_eql rfl rfl) ?_
                          refine Z.s_val (Z.pv_assign rfl) ?_
                          refine Z.j_nil ?_
                          refine Z.j_then ?_
                          refine Z.j_cond rfl (fun hc116 => ?_) (fun hc116 => ?_)
                          · try (with_reducible first | replace hc116 := of_decide_eq_true hc116 | replace hc116 := of_decide_eq_false hc116 | replace hc116 := Z.nd_true hc116 | replace hc116 := Z.nd_false hc116 | replace hc116 := Z.nn_true hc116 | replace hc116 := Z.nn_false hc116 | replace hc116 := Z.nb_true hc116 | replace hc116 := Z.nb_false hc116)
                            first
                            | (exfalso; first | (cases hc116; done) | omega)
                            | skip
                              refine Z.j_seq ?_
                              refine Z.j_region ?_
                              refine Z.s_val (Z.pv_move rfl) ?_
                              refine Z.s_val (Z.pv_fieldAddr (o' := 2) rfl Try.underlying33 rfl Try.sizeOf31 rfl) ?_
                              refine Z.s_val (Z.pv_load1 rfl (by repeat (first | with_reducible exact Z.Take.here | apply Z.Take.there)) Try.isAgg31 (by rfl)) ?_
                              refine Z.s_callD rfl rfl rfl isFn11 (by repeat (first | with_reducible exact Z.Takes.nil | (apply Z.Takes.cons; (repeat (first | with_reducible exact Z.Take.here | apply Z.Take.there))))) (by repeat (first | exact Z.App.nil | apply Z.App.cons)) (close_spec _ tb s.t o.t) ?_
                              refine Z.j_nil ?_
                              refine Z.j_then ?_
                              refine Z.j_region ?_
                              refine Z.s_val (Z.pv_move rfl) ?_
                              refine Z.s_val (Z.pv_fieldAddr (o' := 2) rfl Try.underlying33 rfl Try.sizeOf31 rfl) ?_
                              refine Z.s_val (Z.pv_load1 rfl (by repeat (first | with_reducible exact Z.Take.here | apply Z.Take.there)) Try.isAgg31 (by rfl)) ?_
                              refine Z.s_delete0 (k := o.t) rfl rfl Try.underlying29 kU64 (by repeat (first | with_reducible exact Z.Take.here | apply Z.Take.there)) ?_
                              refine Z.j_nil ?_
                              refine Z.j_blk ?_
                              refine Z.j_then ?_
                              refine Z.j_seq ?_
                              first
                              | (have hst := step_a (s := s) (o := o) (by omega) (by rw [hN]; exact hc106)
                                 rw [hN] at hst
                                 refine Z.j_cast (A := TabP tb (s.t.openT o.p o.t N)) (B := TabP tb (es os most idle abs (i + 1)).t) (by repeat (first | with_reducible exact Z.Take.here | apply Z.Take.there)) (by rw [hstep, hst]) ?_
                                 refine Z.j_cast (A := Z.MapP bb (Value.int .u64) (Value.int .i64) (Z.mput o.t N s.bm)) (B := Z.MapP bb (Value.int .u64) (Value.int .i64) (es os most idle abs (i + 1)).bm) (by repeat (first | with_reducible exact Z.Take.here | apply Z.Take.there)) (by rw [hstep, hst]) ?_
                                 refine Z.j_cast (A := Z.MapP pb (Value.int .u64) (Value.int .i64) (Z.mput o.t o.p s.pm)) (B := Z.MapP pb (Value.int .u64) (Value.int .i64) (es os most idle abs (i + 1)).pm) (by repeat (first | with_reducible exact Z.Take.here | apply Z.Take.there)) (by rw [hstep, hst]) ?_)
                              | (have hst := step_b (s := s) (o := o) (by omega) (by rw [hN]; exact hc106)
                                 rw [hN] at hst
                                 refine Z.j_cast (A := TabP tb (s.t.openT o.p o.t N)) (B := TabP tb (es os most idle abs (i + 1)).t) (by repeat (first | with_reducible exact Z.Take.here | apply Z.Take.there)) (by rw [hstep, hst]) ?_
                                 refine Z.j_cast (A := Z.MapP bb (Value.int .u64) (Value.int .i64) s.bm) (B := Z.MapP bb (Value.int .u64) (Value.int .i64) (es os most idle abs (i + 1)).bm) (by repeat (first | with_reducible exact Z.Take.here | apply Z.Take.there)) (by rw [hstep, hst]) ?_
                                 refine Z.j_cast (A := Z.MapP pb (Value.int .u64) (Value.int .i64) s.pm) (B := Z.MapP pb (Value.int .u64) (Value.int .i64) (es os most idle abs (i + 1)).pm) (by repeat (first | with_reducible exact Z.Take.here | apply Z.Take.there)) (by rw [hstep, hst]) ?_)
                              | (have hst := step_c (s := s) (o := o) (by omega) hc116
                                 rw [hN] at hst
                                 refine Z.j_cast (A := TabP tb (s.t.close o.t)) (B := TabP tb (es os most idle abs (i + 1)).t) (by repeat (first | with_reducible exact Z.Take.here | apply Z.Take.there)) (by rw [hstep, hst]) ?_
                                 refine Z.j_cast (A := Z.MapP bb (Value.int .u64) (Value.int .i64) (Z.mdel o.t s.bm)) (B := Z.MapP bb (Value.int .u64) (Value.int .i64) (es os most idle abs (i + 1)).bm) (by repeat (first | with_reducible exact Z.Take.here | apply Z.Take.there)) (by rw [hstep, hst]) ?_
                                 refine Z.j_cast (A := Z.MapP pb (Value.int .u64) (Value.int .i64) s.pm) (B := Z.MapP pb (Value.int .u64) (Value.int .i64) (es os most idle abs (i + 1)).pm) (by repeat (first | with_reducible exact Z.Take.here | apply Z.Take.there)) (by rw [hstep, hst]) ?_)
                              | (have hst := step_d (s := s) (o := o) (by omega) hc116 (by rw [hN]; exact hc92)
                                 rw [hN] at hst
                                 refine Z.j_cast (A := TabP tb (s.t.useT o.t N)) (B := TabP tb (es os most idle abs (i + 1)).t) (by repeat (first | with_reducible exact Z.Take.here | apply Z.Take.there)) (by rw [hstep, hst]) ?_
                                 refine Z.j_cast (A := Z.MapP bb (Value.int .u64) (Value.int .i64) s.bm) (B := Z.MapP bb (Value.int .u64) (Value.int .i64) (es os most idle abs (i + 1)).bm) (by repeat (first | with_reducible exact Z.Take.here | apply Z.Take.there)) (by rw [hstep, hst]) ?_
                                 refine Z.j_cast (A := Z.MapP pb (Value.int .u64) (Value.int .i64) s.pm) (B := Z.MapP pb (Value.int .u64) (Value.int .i64) (es os most idle abs (i + 1)).pm) (by repeat (first | with_reducible exact Z.Take.here | apply Z.Take.there)) (by rw [hstep, hst]) ?_)
                              | (have hst := step_e (s := s) (o := o) (by omega) hc116 (by rw [hN]; exact hc92)
                                 rw [hN] at hst
                                 refine Z.j_cast (A := TabP tb (s.t.useT o.t N)) (B := TabP tb (es os most idle abs (i + 1)).t) (by repeat (first | with_reducible exact Z.Take.here | apply Z.Take.there)) (by rw [hstep, hst]) ?_
                                 refine Z.j_cast (A := Z.MapP bb (Value.int .u64) (Value.int .i64) (Z.mdel o.t s.bm)) (B := Z.MapP bb (Value.int .u64) (Value.int .i64) (es os most idle abs (i + 1)).bm) (by repeat (first | with_reducible exact Z.Take.here | apply Z.Take.there)) (by rw [hstep, hst]) ?_
                                 refine Z.j_cast (A := Z.MapP pb (Value.int .u64) (Value.int .i64) s.pm) (B := Z.MapP pb (Value.int .u64) (Value.int .i64) (es os most idle abs (i + 1)).pm) (by repeat (first | with_reducible exact Z.Take.here | apply Z.Take.there)) (by rw [hstep, hst]) ?_)
                              refine Z.j_region ?_
                              refine Z.s_val (Z.pv_move rfl) ?_
                              refine Z.s_callD rfl rfl rfl isFn13 (by repeat (first | with_reducible exact Z.Takes.nil | (apply Z.Takes.cons; (repeat (first | with_reducible exact Z.Take.here | apply Z.Take.there))))) (by repeat (first | exact Z.App.nil | apply Z.App.cons)) (len_spec _ tb (es os most idle abs (i + 1)).t) ?_
                              refine Z.s_val (Z.pv_move rfl) ?_
                              refine Z.s_val (Z.pv_gtr rfl rfl) ?_
                              refine Z.j_nil ?_
                              refine Z.j_then ?_
                              refine Z.j_cond rfl (fun hc128 => ?_) (fun hc128 => ?_)
                              · try (with_reducible first | replace hc128 := of_decide_eq_true hc128 | replace hc128 := of_decide_eq_false hc128 | replace hc128 := Z.nd_true hc128 | replace hc128 := Z.nd_false hc128 | replace hc128 := Z.nn_true hc128 | replace hc128 := Z.nn_false hc128 | replace hc128 := Z.nb_true hc128 | replace hc128 := Z.nb_false hc128)
                                have := hEI2.len; omega
                              · try (with_reducible first | replace hc128 := of_decide_eq_true hc128 | replace hc128 := of_decide_eq_false hc128 | replace hc128 := Z.nd_true hc128 | replace hc128 := Z.nd_false hc128 | replace hc128 := Z.nn_true hc128 | replace hc128 := Z.nn_false hc128 | replace hc128 := Z.nb_true hc128 | replace hc128 := Z.nb_false hc128)
                                first
                                | (exfalso; first | (cases hc128; done) | omega)
                                | skip
                                  refine Z.j_skip ?_
                                  refine Z.j_blk ?_
                                  refine Z.j_then ?_
                                  refine Z.j_region ?_
                                  refine Z.s_val (Z.pv_add rfl rfl (by first | exact IntWalk.i64_in _ (by omega) | rfl)) ?_
                                  refine Z.s_val (Z.pv_move rfl) ?_
                                  refine Z.j_nil ?_
                                  refine Z.j_then ?_
                                  refine Z.s_is 13 rfl (show _ = Value.int .i64 (es os most idle abs (i + 1)).now from by rw [hstep, step_now, hN]) ?_
                                  (refine Z.j_nextG (X := { x : (Nat) // (x) ≤ n1 }) (EE := (fun (x : { x : (Nat) // (x) ≤ n1 }) => [(0, .int .i64 most), (1, .int .i64 idle), (2, .int .i64 abs), (3, .slice p1 n1 cap1), (9, .pointer (some ⟨tb, 0, none⟩)), (11, .map (some bb)), (12, .map (some pb)), (13, .int .i64 (es os most idle abs (x.1)).now), (42, .slice p1 n1 cap1), (43, .int .i64 n1), (44, .int .i64 ((x.1) : Nat))])) (LL := (fun (x : { x : (Nat) // (x) ≤ n1 }) => [TabP tb (es os most idle abs (x.1)).t, Z.MapP bb (Value.int .u64) (Value.int .i64) (es os most idle abs (x.1)).bm, Z.MapP pb (Value.int .u64) (Value.int .i64) (es os most idle abs (x.1)).pm])) (μ := (fun (x : { x : (Nat) // (x) ≤ n1 }) => n1 - (x.1))) (x := ⟨(i), hinv⟩) ⟨(i + 1), by omega⟩ ?_ ?_ ?_; (show n1 - (i + 1) < n1 - i; omega); (exact (by repeat (first | exact trivial | refine ⟨rfl, ?_⟩))); (exact Z.st_td (by repeat (first | with_reducible exact Z.Takes.nil | (apply Z.Takes.cons; (repeat (first | with_reducible exact Z.Take.here | apply Z.Take.there))))) (by repeat (first | with_reducible exact Z.Drop.nil | apply Z.Drop.cons))))
                          · try (with_reducible first | replace hc116 := of_decide_eq_true hc116 | replace hc116 := of_decide_eq_false hc116 | replace hc116 := Z.nd_true hc116 | replace hc116 := Z.nd_false hc116 | replace hc116 := Z.nn_true hc116 | replace hc116 := Z.nn_false hc116 | replace hc116 := Z.nb_true hc116 | replace hc116 := Z.nb_false hc116)
                            first
                            | (exfalso; first | (cases hc116; done) | omega)
                            | skip
                              refine Z.j_seq ?_
                              refine Z.j_region ?_
                              refine Z.s_val (Z.pv_move rfl) ?_
                              refine Z.s_val (Z.pv_fieldAddr (o' := 2) rfl Try.underlying33 rfl Try.sizeOf31 rfl) ?_
                              refine Z.s_val (Z.pv_load1 rfl (by repeat (first | with_reducible exact Z.Take.here | apply Z.Take.there)) Try.isAgg31 (by rfl)) ?_
                              refine Z.s_val (Z.pv_move rfl) ?_
                              refine Z.s_callD rfl rfl rfl isFn12 (by repeat (first | with_reducible exact Z.Takes.nil | (apply Z.Takes.cons; (repeat (first | with_reducible exact Z.Take.here | apply Z.Take.there))))) (by repeat (first | exact Z.App.nil | apply Z.App.cons)) (use_spec _ tb s.t o.t N) ?_
                              refine Z.s_val (Z.pv_move rfl) ?_
                              refine Z.s_val (Z.pv_extract rfl rfl) ?_
                              refine Z.s_val (Z.pv_extract rfl rfl) ?_
                              refine Z.s_val (Z.pv_assign rfl) ?_
                              refine Z.s_val (Z.pv_assign rfl) ?_
                              refine Z.j_nil ?_
                              refine Z.j_then ?_
                              refine Z.j_seq ?_
                              refine Z.j_region ?_
                              refine Z.s_val (Z.pv_move rfl) ?_
                              refine Z.s_val (Z.pv_fieldAddr (o' := 2) rfl Try.underlying33 rfl Try.sizeOf31 rfl) ?_
                              refine Z.s_val (Z.pv_load1 rfl (by repeat (first | with_reducible exact Z.Take.here | apply Z.Take.there)) Try.isAgg31 (by rfl)) ?_
                              refine Z.s_val (Z.pv_lookupOkZ (k := o.t) (venc := Value.int .i64) (m := s.bm) 0 rfl rfl Try.underlying29 kU64 Try.zeroValue2 (by repeat (first | with_reducible exact Z.Take.here | apply Z.Take.there))) ?_
                              refine Z.s_val (Z.pv_move rfl) ?_
                              refine Z.s_val (Z.pv_extract rfl rfl) ?_
                              refine Z.s_val (Z.pv_extract rfl rfl) ?_
                              refine Z.s_val (Z.pv_assign rfl) ?_
                              refine Z.s_val (Z.pv_assign rfl) ?_
                              refine Z.j_nil ?_
                              refine Z.j_then ?_
                              refine Z.j_seq ?_
                              refine Z.j_seq ?_
                              refine Z.j_region ?_
                              refine Z.s_val (Z.pv_move rfl) ?_
                              refine Z.s_val (Z.pv_eql rfl rfl) ?_
                              refine Z.s_val (Z.pv_move rfl) ?_
                              refine Z.s_split 72 rfl (fun hg72 => ?_) (fun hg72 => ?_)
                              · try (with_reducible first | replace hg72 := of_decide_eq_true hg72 | replace hg72 := of_decide_eq_false hg72 | replace hg72 := Z.nd_true hg72 | replace hg72 := Z.nd_false hg72 | replace hg72 := Z.nn_true hg72 | replace hg72 := Z.nn_false hg72 | replace hg72 := Z.nb_true hg72 | replace hg72 := Z.nb_false hg72)
                                first
                                | (exfalso; first | (cases hg72; done) | omega)
                                | skip
                                  refine Z.s_val (Z.pv_move rfl) ?_
                                  refine Z.s_val (Z.pv_not rfl) ?_
                                  refine Z.s_val (Z.pv_move rfl) ?_
                                  refine Z.s_is 75 rfl (show _ = Value.bool false from (by rw [(hU hg72).1]; rfl)) ?_
                                  refine Z.s_val (Z.pv_move rfl) ?_
                                  refine Z.s_val (Z.pv_move rfl) ?_
                                  refine Z.s_val (Z.pv_fieldAddr (o' := 2) rfl Try.underlying33 rfl Try.sizeOf31 rfl) ?_
                                  refine Z.s_val (Z.pv_load1 rfl (by repeat (first | with_reducible exact Z.Take.here | apply Z.Take.there)) Try.isAgg31 (by rfl)) ?_
                                  refine Z.s_val (Z.pv_lookupZ (k := o.t) (venc := Value.int .i64) (m := s.pm) 0 rfl rfl Try.underlying30 kU64 Try.zeroValue3 (by repeat (first | with_reducible exact Z.Take.here | apply Z.Take.there))) ?_
                                  refine Z.s_val (Z.pv_neq rfl rfl) ?_
                                  refine Z.s_val (Z.pv_pick rfl rfl) ?_
                                  refine Z.s_val (Z.pv_move rfl) ?_
                                  refine Z.s_is 83 rfl (show _ = Value.bool false from (by rw [decide_eq_true (hU hg72).2.1]; rfl)) ?_
                                  refine Z.s_val (Z.pv_move rfl) ?_
                                  refine Z.s_val (Z.pv_move rfl) ?_
                                  refine Z.s_val (Z.pv_sub rfl rfl (by first | exact IntWalk.i64_in _ (by omega) | rfl)) ?_
                                  refine Z.s_val (Z.pv_move rfl) ?_
                                  refine Z.s_val (Z.pv_geq rfl rfl) ?_
                                  refine Z.s_val (Z.pv_pick rfl rfl) ?_
                                  refine Z.s_val (Z.pv_pick rfl rfl) ?_
                                  refine Z.j_nil ?_
                                  refine Z.j_then ?_
                                  refine Z.j_cond rfl (fun hc90 => ?_) (fun hc90 => ?_)
                                  · try (with_reducible first | replace hc90 := of_decide_eq_true hc90 | replace hc90 := of_decide_eq_false hc90 | replace hc90 := Z.nd_true hc90 | replace hc90 := Z.nd_false hc90 | replace hc90 := Z.nn_true hc90 | replace hc90 := Z.nn_false hc90 | replace hc90 := Z.nb_true hc90 | replace hc90 := Z.nb_false hc90)
                                    exfalso
                                    first
                                    | (cases hc90; done)
                                    | exact (hU hg72).2.2 hc90
                                  · try (with_reducible first | replace hc90 := of_decide_eq_true hc90 | replace hc90 := of_decide_eq_false hc90 | replace hc90 := Z.nd_true hc90 | replace hc90 := Z.nd_false hc90 | replace hc90 := Z.nn_true hc90 | replace hc90 := Z.nn_false hc90 | replace hc90 := Z.nb_true hc90 | replace hc90 := Z.nb_false hc90)
                                    first
                                    | (exfalso; first | (cases hc90; done) | omega)
                                    | skip
                                      refine Z.j_skip ?_
                                      refine Z.j_then ?_
                                      refine Z.j_seq ?_
                                      refine Z.j_region ?_
                                      refine Z.s_val (Z.pv_move rfl) ?_
                                      refine Z.s_val (Z.pv_neq rfl rfl) ?_
                                      refine Z.j_nil ?_
                                      refine Z.j_then ?_
                                      refine Z.j_cond rfl (fun hc92 => ?_) (fun hc92 => ?_)
                                      · try (with_reducible first | replace hc92 := of_decide_eq_true hc92 | replace hc92 := of_decide_eq_false hc92 | replace hc92 := Z.nd_true hc92 | replace hc92 := Z.nd_false hc92 | replace hc92 := Z.nn_true hc92 | replace hc92 := Z.nn_false hc92 | replace hc92 := Z.nb_true hc92 | replace hc92 := Z.nb_false hc92)
                                        first
                                        | (exfalso; first | (cases hc92; done) | omega)
                                        | skip
                                          refine Z.j_region ?_
                                          refine Z.s_val (Z.pv_move rfl) ?_
                                          refine Z.s_val (Z.pv_fieldAddr (o' := 2) rfl Try.underlying33 rfl Try.sizeOf31 rfl) ?_
                                          refine Z.s_val (Z.pv_load1 rfl (by repeat (first | with_reducible exact Z.Take.here | apply Z.Take.there)) Try.isAgg31 (by rfl)) ?_
                                          refine Z.s_delete0 (k := o.t) rfl rfl Try.underlying29 kU64 (by repeat (first | with_reducible exact Z.Take.here | apply Z.Take.there)) ?_
                                          refine Z.j_nil ?_
                                          refine Z.j_blk ?_
                                          refine Z.j_then ?_
                                          refine Z.j_seq ?_
                                          first
                                          | (have hst := step_a (s := s) (o := o) (by omega) (by rw [hN]; exact hc106)
                                             rw [hN] at hst
                                             refine Z.j_cast (A := TabP tb (s.t.openT o.p o.t N)) (B := TabP tb (es os most idle abs (i + 1)).t) (by repeat (first | with_reducible exact Z.Take.here | apply Z.Take.there)) (by rw [hstep, hst]) ?_
                                             refine Z.j_cast (A := Z.MapP bb (Value.int .u64) (Value.int .i64) (Z.mput o.t N s.bm)) (B := Z.MapP bb (Value.int .u64) (Value.int .i64) (es os most idle abs (i + 1)).bm) (by repeat (first | with_reducible exact Z.Take.here | apply Z.Take.there)) (by rw [hstep, hst]) ?_
                                             refine Z.j_cast (A := Z.MapP pb (Value.int .u64) (Value.int .i64) (Z.mput o.t o.p s.pm)) (B := Z.MapP pb (Value.int .u64) (Value.int .i64) (es os most idle abs (i + 1)).pm) (by repeat (first | with_reducible exact Z.Take.here | apply Z.Take.there)) (by rw [hstep, hst]) ?_)
                                          | (have hst := step_b (s := s) (o := o) (by omega) (by rw [hN]; exact hc106)
                                             rw [hN] at hst
                                             refine Z.j_cast (A := TabP tb (s.t.openT o.p o.t N)) (B := TabP tb (es os most idle abs (i + 1)).t) (by repeat (first | with_reducible exact Z.Take.here | apply Z.Take.there)) (by rw [hstep, hst]) ?_
                                             refine Z.j_cast (A := Z.MapP bb (Value.int .u64) (Value.int .i64) s.bm) (B := Z.MapP bb (Value.int .u64) (Value.int .i64) (es os most idle abs (i + 1)).bm) (by repeat (first | with_reducible exact Z.Take.here | apply Z.Take.there)) (by rw [hstep, hst]) ?_
                                             refine Z.j_cast (A := Z.MapP pb (Value.int .u64) (Value.int .i64) s.pm) (B := Z.MapP pb (Value.int .u64) (Value.int .i64) (es os most idle abs (i + 1)).pm) (by repeat (first | with_reducible exact Z.Take.here | apply Z.Take.there)) (by rw [hstep, hst]) ?_)
                                          | (have hst := step_c (s := s) (o := o) (by omega) hc116
                                             rw [hN] at hst
                                             refine Z.j_cast (A := TabP tb (s.t.close o.t)) (B := TabP tb (es os most idle abs (i + 1)).t) (by repeat (first | with_reducible exact Z.Take.here | apply Z.Take.there)) (by rw [hstep, hst]) ?_
                                             refine Z.j_cast (A := Z.MapP bb (Value.int .u64) (Value.int .i64) (Z.mdel o.t s.bm)) (B := Z.MapP bb (Value.int .u64) (Value.int .i64) (es os most idle abs (i + 1)).bm) (by repeat (first | with_reducible exact Z.Take.here | apply Z.Take.there)) (by rw [hstep, hst]) ?_
                                             refine Z.j_cast (A := Z.MapP pb (Value.int .u64) (Value.int .i64) s.pm) (B := Z.MapP pb (Value.int .u64) (Value.int .i64) (es os most idle abs (i + 1)).pm) (by repeat (first | with_reducible exact Z.Take.here | apply Z.Take.there)) (by rw [hstep, hst]) ?_)
                                          | (have hst := step_d (s := s) (o := o) (by omega) hc116 (by rw [hN]; exact hc92)
                                             rw [hN] at hst
                                             refine Z.j_cast (A := TabP tb (s.t.useT o.t N)) (B := TabP tb (es os most idle abs (i + 1)).t) (by repeat (first | with_reducible exact Z.Take.here | apply Z.Take.there)) (by rw [hstep, hst]) ?_
                                             refine Z.j_cast (A := Z.MapP bb (Value.int .u64) (Value.int .i64) s.bm) (B := Z.MapP bb (Value.int .u64) (Value.int .i64) (es os most idle abs (i + 1)).bm) (by repeat (first | with_reducible exact Z.Take.here | apply Z.Take.there)) (by rw [hstep, hst]) ?_
                                             refine Z.j_cast (A := Z.MapP pb (Value.int .u64) (Value.int .i64) s.pm) (B := Z.MapP pb (Value.int .u64) (Value.int .i64) (es os most idle abs (i + 1)).pm) (by repeat (first | with_reducible exact Z.Take.here | apply Z.Take.there)) (by rw [hstep, hst]) ?_)
                                          | (have hst := step_e (s := s) (o := o) (by omega) hc116 (by rw [hN]; exact hc92)
                                             rw [hN] at hst
                                             refine Z.j_cast (A := TabP tb (s.t.useT o.t N)) (B := TabP tb (es os most idle abs (i + 1)).t) (by repeat (first | with_reducible exact Z.Take.here | apply Z.Take.there)) (by rw [hstep, hst]) ?_
                                             refine Z.j_cast (A := Z.MapP bb (Value.int .u64) (Value.int .i64) (Z.mdel o.t s.bm)) (B := Z.MapP bb (Value.int .u64) (Value.int .i64) (es os most idle abs (i + 1)).bm) (by repeat (first | with_reducible exact Z.Take.here | apply Z.Take.there)) (by rw [hstep, hst]) ?_
                                             refine Z.j_cast (A := Z.MapP pb (Value.int .u64) (Value.int .i64) s.pm) (B := Z.MapP pb (Value.int .u64) (Value.int .i64) (es os most idle abs (i + 1)).pm) (by repeat (first | with_reducible exact Z.Take.here | apply Z.Take.there)) (by rw [hstep, hst]) ?_)
                                          refine Z.j_region ?_
                                          refine Z.s_val (Z.pv_move rfl) ?_
                                          refine Z.s_callD rfl rfl rfl isFn13 (by repeat (first | with_reducible exact Z.Takes.nil | (apply Z.Takes.cons; (repeat (first | with_reducible exact Z.Take.here | apply Z.Take.there))))) (by repeat (first | exact Z.App.nil | apply Z.App.cons)) (len_spec _ tb (es os most idle abs (i + 1)).t) ?_
                                          refine Z.s_val (Z.pv_move rfl) ?_
                                          refine Z.s_val (Z.pv_gtr rfl rfl) ?_
                                          refine Z.j_nil ?_
                                          refine Z.j_then ?_
                                          refine Z.j_cond rfl (fun hc128 => ?_) (fun hc128 => ?_)
                                          · try (with_reducible first | replace hc128 := of_decide_eq_true hc128 | replace hc128 := of_decide_eq_false hc128 | replace hc128 := Z.nd_true hc128 | replace hc128 := Z.nd_false hc128 | replace hc128 := Z.nn_true hc128 | replace hc128 := Z.nn_false hc128 | replace hc128 := Z.nb_true hc128 | replace hc128 := Z.nb_false hc128)
                                            have := hEI2.len; omega
                                          · try (with_reducible first | replace hc128 := of_decide_eq_true hc128 | replace hc128 := of_decide_eq_false hc128 | replace hc128 := Z.nd_true hc128 | replace hc128 := Z.nd_false hc128 | replace hc128 := Z.nn_true hc128 | replace hc128 := Z.nn_false hc128 | replace hc128 := Z.nb_true hc128 | replace hc128 := Z.nb_false hc128)
                                            first
                                            | (exfalso; first | (cases hc128; done) | omega)
                                            | skip
                                              refine Z.j_skip ?_
                                              refine Z.j_blk ?_
                                              refine Z.j_then ?_
                                              refine Z.j_region ?_
                                              refine Z.s_val (Z.pv_add rfl rfl (by first | exact IntWalk.i64_in _ (by omega) | rfl)) ?_
                                              refine Z.s_val (Z.pv_move rfl) ?_
                                              refine Z.j_nil ?_
                                              refine Z.j_then ?_
                                              refine Z.s_is 13 rfl (show _ = Value.int .i64 (es os most idle abs (i + 1)).now from by rw [hstep, step_now, hN]) ?_
                                              (refine Z.j_nextG (X := { x : (Nat) // (x) ≤ n1 }) (EE := (fun (x : { x : (Nat) // (x) ≤ n1 }) => [(0, .int .i64 most), (1, .int .i64 idle), (2, .int .i64 abs), (3, .slice p1 n1 cap1), (9, .pointer (some ⟨tb, 0, none⟩)), (11, .map (some bb)), (12, .map (some pb)), (13, .int .i64 (es os most idle abs (x.1)).now), (42, .slice p1 n1 cap1), (43, .int .i64 n1), (44, .int .i64 ((x.1) : Nat))])) (LL := (fun (x : { x : (Nat) // (x) ≤ n1 }) => [TabP tb (es os most idle abs (x.1)).t, Z.MapP bb (Value.int .u64) (Value.int .i64) (es os most idle abs (x.1)).bm, Z.MapP pb (Value.int .u64) (Value.int .i64) (es os most idle abs (x.1)).pm])) (μ := (fun (x : { x : (Nat) // (x) ≤ n1 }) => n1 - (x.1))) (x := ⟨(i), hinv⟩) ⟨(i + 1), by omega⟩ ?_ ?_ ?_; (show n1 - (i + 1) < n1 - i; omega); (exact (by repeat (first | exact trivial | refine ⟨rfl, ?_⟩))); (exact Z.st_td (by repeat (first | with_reducible exact Z.Takes.nil | (apply Z.Takes.cons; (repeat (first | with_reducible exact Z.Take.here | apply Z.Take.there))))) (by repeat (first | with_reducible exact Z.Drop.nil | apply Z.Drop.cons))))
                                      · try (with_reducible first | replace hc92 := of_decide_eq_true hc92 | replace hc92 := of_decide_eq_false hc92 | replace hc92 := Z.nd_true hc92 | replace hc92 := Z.nd_false hc92 | replace hc92 := Z.nn_true hc92 | replace hc92 := Z.nn_false hc92 | replace hc92 := Z.nb_true hc92 | replace hc92 := Z.nb_false hc92)
                                        first
                                        | (exfalso; first | (cases hc92; done) | omega)
                                        | skip
                                          refine Z.j_skip ?_
                                          refine Z.j_blk ?_
                                          refine Z.j_then ?_
                                          refine Z.j_seq ?_
                                          first
                                          | (have hst := step_a (s := s) (o := o) (by omega) (by rw [hN]; exact hc106)
                                             rw [hN] at hst
                                             refine Z.j_cast (A := TabP tb (s.t.openT o.p o.t N)) (B := TabP tb (es os most idle abs (i + 1)).t) (by repeat (first | with_reducible exact Z.Take.here | apply Z.Take.there)) (by rw [hstep, hst]) ?_
                                             refine Z.j_cast (A := Z.MapP bb (Value.int .u64) (Value.int .i64) (Z.mput o.t N s.bm)) (B := Z.MapP bb (Value.int .u64) (Value.int .i64) (es os most idle abs (i + 1)).bm) (by repeat (first | with_reducible exact Z.Take.here | apply Z.Take.there)) (by rw [hstep, hst]) ?_
                                             refine Z.j_cast (A := Z.MapP pb (Value.int .u64) (Value.int .i64) (Z.mput o.t o.p s.pm)) (B := Z.MapP pb (Value.int .u64) (Value.int .i64) (es os most idle abs (i + 1)).pm) (by repeat (first | with_reducible exact Z.Take.here | apply Z.Take.there)) (by rw [hstep, hst]) ?_)
                                          | (have hst := step_b (s := s) (o := o) (by omega) (by rw [hN]; exact hc106)
                                             rw [hN] at hst
                                             refine Z.j_cast (A := TabP tb (s.t.openT o.p o.t N)) (B := TabP tb (es os most idle abs (i + 1)).t) (by repeat (first | with_reducible exact Z.Take.here | apply Z.Take.there)) (by rw [hstep, hst]) ?_
                                             refine Z.j_cast (A := Z.MapP bb (Value.int .u64) (Value.int .i64) s.bm) (B := Z.MapP bb (Value.int .u64) (Value.int .i64) (es os most idle abs (i + 1)).bm) (by repeat (first | with_reducible exact Z.Take.here | apply Z.Take.there)) (by rw [hstep, hst]) ?_
                                             refine Z.j_cast (A := Z.MapP pb (Value.int .u64) (Value.int .i64) s.pm) (B := Z.MapP pb (Value.int .u64) (Value.int .i64) (es os most idle abs (i + 1)).pm) (by repeat (first | with_reducible exact Z.Take.here | apply Z.Take.there)) (by rw [hstep, hst]) ?_)
                                          | (have hst := step_c (s := s) (o := o) (by omega) hc116
                                             rw [hN] at hst
                                             refine Z.j_cast (A := TabP tb (s.t.close o.t)) (B := TabP tb (es os most idle abs (i + 1)).t) (by repeat (first | with_reducible exact Z.Take.here | apply Z.Take.there)) (by rw [hstep, hst]) ?_
                                             refine Z.j_cast (A := Z.MapP bb (Value.int .u64) (Value.int .i64) (Z.mdel o.t s.bm)) (B := Z.MapP bb (Value.int .u64) (Value.int .i64) (es os most idle abs (i + 1)).bm) (by repeat (first | with_reducible exact Z.Take.here | apply Z.Take.there)) (by rw [hstep, hst]) ?_
                                             refine Z.j_cast (A := Z.MapP pb (Value.int .u64) (Value.int .i64) s.pm) (B := Z.MapP pb (Value.int .u64) (Value.int .i64) (es os most idle abs (i + 1)).pm) (by repeat (first | with_reducible exact Z.Take.here | apply Z.Take.there)) (by rw [hstep, hst]) ?_)
                                          | (have hst := step_d (s := s) (o := o) (by omega) hc116 (by rw [hN]; exact hc92)
                                             rw [hN] at hst
                                             refine Z.j_cast (A := TabP tb (s.t.useT o.t N)) (B := TabP tb (es os most idle abs (i + 1)).t) (by repeat (first | with_reducible exact Z.Take.here | apply Z.Take.there)) (by rw [hstep, hst]) ?_
                                             refine Z.j_cast (A := Z.MapP bb (Value.int .u64) (Value.int .i64) s.bm) (B := Z.MapP bb (Value.int .u64) (Value.int .i64) (es os most idle abs (i + 1)).bm) (by repeat (first | with_reducible exact Z.Take.here | apply Z.Take.there)) (by rw [hstep, hst]) ?_
                                             refine Z.j_cast (A := Z.MapP pb (Value.int .u64) (Value.int .i64) s.pm) (B := Z.MapP pb (Value.int .u64) (Value.int .i64) (es os most idle abs (i + 1)).pm) (by repeat (first | with_reducible exact Z.Take.here | apply Z.Take.there)) (by rw [hstep, hst]) ?_)
                                          | (have hst := step_e (s := s) (o := o) (by omega) hc116 (by rw [hN]; exact hc92)
                                             rw [hN] at hst
                                             refine Z.j_cast (A := TabP tb (s.t.useT o.t N)) (B := TabP tb (es os most idle abs (i + 1)).t) (by repeat (first | with_reducible exact Z.Take.here | apply Z.Take.there)) (by rw [hstep, hst]) ?_
                                             refine Z.j_cast (A := Z.MapP bb (Value.int .u64) (Value.int .i64) (Z.mdel o.t s.bm)) (B := Z.MapP bb (Value.int .u64) (Value.int .i64) (es os most idle abs (i + 1)).bm) (by repeat (first | with_reducible exact Z.Take.here | apply Z.Take.there)) (by rw [hstep, hst]) ?_
                                             refine Z.j_cast (A := Z.MapP pb (Value.int .u64) (Value.int .i64) s.pm) (B := Z.MapP pb (Value.int .u64) (Value.int .i64) (es os most idle abs (i + 1)).pm) (by repeat (first | with_reducible exact Z.Take.here | apply Z.Take.there)) (by rw [hstep, hst]) ?_)
                                          refine Z.j_region ?_
                                          refine Z.s_val (Z.pv_move rfl) ?_
                                          refine Z.s_callD rfl rfl rfl isFn13 (by repeat (first | with_reducible exact Z.Takes.nil | (apply Z.Takes.cons; (repeat (first | with_reducible exact Z.Take.here | apply Z.Take.there))))) (by repeat (first | exact Z.App.nil | apply Z.App.cons)) (len_spec _ tb (es os most idle abs (i + 1)).t) ?_
                                          refine Z.s_val (Z.pv_move rfl) ?_
                                          refine Z.s_val (Z.pv_gtr rfl rfl) ?_
                                          refine Z.j_nil ?_
                                          refine Z.j_then ?_
                                          refine Z.j_cond rfl (fun hc128 => ?_) (fun hc128 => ?_)
                                          · try (with_reducible first | replace hc128 := of_decide_eq_true hc128 | replace hc128 := of_decide_eq_false hc128 | replace hc128 := Z.nd_true hc128 | replace hc128 := Z.nd_false hc128 | replace hc128 := Z.nn_true hc128 | replace hc128 := Z.nn_false hc128 | replace hc128 := Z.nb_true hc128 | replace hc128 := Z.nb_false hc128)
                                            have := hEI2.len; omega
                                          · try (with_reducible first | replace hc128 := of_decide_eq_true hc128 | replace hc128 := of_decide_eq_false hc128 | replace hc128 := Z.nd_true hc128 | replace hc128 := Z.nd_false hc128 | replace hc128 := Z.nn_true hc128 | replace hc128 := Z.nn_false hc128 | replace hc128 := Z.nb_true hc128 | replace hc128 := Z.nb_false hc128)
                                            first
                                            | (exfalso; first | (cases hc128; done) | omega)
                                            | skip
                                              refine Z.j_skip ?_
                                              refine Z.j_blk ?_
                                              refine Z.j_then ?_
                                              refine Z.j_region ?_
                                              refine Z.s_val (Z.pv_add rfl rfl (by first | exact IntWalk.i64_in _ (by omega) | rfl)) ?_
                                              refine Z.s_val (Z.pv_move rfl) ?_
                                              refine Z.j_nil ?_
                                              refine Z.j_then ?_
                                              refine Z.s_is 13 rfl (show _ = Value.int .i64 (es os most idle abs (i + 1)).now from by rw [hstep, step_now, hN]) ?_
                                              (refine Z.j_nextG (X := { x : (Nat) // (x) ≤ n1 }) (EE := (fun (x : { x : (Nat) // (x) ≤ n1 }) => [(0, .int .i64 most), (1, .int .i64 idle), (2, .int .i64 abs), (3, .slice p1 n1 cap1), (9, .pointer (some ⟨tb, 0, none⟩)), (11, .map (some bb)), (12, .map (some pb)), (13, .int .i64 (es os most idle abs (x.1)).now), (42, .slice p1 n1 cap1), (43, .int .i64 n1), (44, .int .i64 ((x.1) : Nat))])) (LL := (fun (x : { x : (Nat) // (x) ≤ n1 }) => [TabP tb (es os most idle abs (x.1)).t, Z.MapP bb (Value.int .u64) (Value.int .i64) (es os most idle abs (x.1)).bm, Z.MapP pb (Value.int .u64) (Value.int .i64) (es os most idle abs (x.1)).pm])) (μ := (fun (x : { x : (Nat) // (x) ≤ n1 }) => n1 - (x.1))) (x := ⟨(i), hinv⟩) ⟨(i + 1), by omega⟩ ?_ ?_ ?_; (show n1 - (i + 1) < n1 - i; omega); (exact (by repeat (first | exact trivial | refine ⟨rfl, ?_⟩))); (exact Z.st_td (by repeat (first | with_reducible exact Z.Takes.nil | (apply Z.Takes.cons; (repeat (first | with_reducible exact Z.Take.here | apply Z.Take.there))))) (by repeat (first | with_reducible exact Z.Drop.nil | apply Z.Drop.cons))))
                              · try (with_reducible first | replace hg72 := of_decide_eq_true hg72 | replace hg72 := of_decide_eq_false hg72 | replace hg72 := Z.nd_true hg72 | replace hg72 := Z.nd_false hg72 | replace hg72 := Z.nn_true hg72 | replace hg72 := Z.nn_false hg72 | replace hg72 := Z.nb_true hg72 | replace hg72 := Z.nb_false hg72)
                                first
                                | (exfalso; first | (cases hg72; done) | omega)
                                | skip
                                  refine Z.s_skip ?_
                                  refine Z.s_skip ?_
                                  refine Z.s_skip ?_
                                  refine Z.s_skip ?_
                                  refine Z.s_skip ?_
                                  refine Z.s_skip ?_
                                  refine Z.s_skip ?_
                                  refine Z.s_skip ?_
                                  refine Z.s_skip ?_
                                  refine Z.s_skip ?_
                                  refine Z.s_skip ?_
                                  refine Z.s_skip ?_
                                  refine Z.s_skip ?_
                                  refine Z.s_skip ?_
                                  refine Z.s_skip ?_
                                  refine Z.s_skip ?_
                                  refine Z.s_skip ?_
                                  refine Z.s_val (Z.pv_pick rfl rfl) ?_
                                  refine Z.j_nil ?_
                                  refine Z.j_then ?_
                                  refine Z.j_cond rfl (fun hc90 => ?_) (fun hc90 => ?_)
                                  · try (with_reducible first | replace hc90 := of_decide_eq_true hc90 | replace hc90 := of_decide_eq_false hc90 | replace hc90 := Z.nd_true hc90 | replace hc90 := Z.nd_false hc90 | replace hc90 := Z.nn_true hc90 | replace hc90 := Z.nn_false hc90 | replace hc90 := Z.nb_true hc90 | replace hc90 := Z.nb_false hc90)
                                    exfalso
                                    first
                                    | (cases hc90; done)
                                    | exact (hU hg72).2.2 hc90
                                  · try (with_reducible first | replace hc90 := of_decide_eq_true hc90 | replace hc90 := of_decide_eq_false hc90 | replace hc90 := Z.nd_true hc90 | replace hc90 := Z.nd_false hc90 | replace hc90 := Z.nn_true hc90 | replace hc90 := Z.nn_false hc90 | replace hc90 := Z.nb_true hc90 | replace hc90 := Z.nb_false hc90)
                                    first
                                    | (exfalso; first | (cases hc90; done) | omega)
                                    | skip
                                      refine Z.j_skip ?_
                                      refine Z.j_then ?_
                                      refine Z.j_seq ?_
                                      refine Z.j_region ?_
                                      refine Z.s_val (Z.pv_move rfl) ?_
                                      refine Z.s_val (Z.pv_neq rfl rfl) ?_
                                      refine Z.j_nil ?_
                                      refine Z.j_then ?_
                                      refine Z.j_cond rfl (fun hc92 => ?_) (fun hc92 => ?_)
                                      · try (with_reducible first | replace hc92 := of_decide_eq_true hc92 | replace hc92 := of_decide_eq_false hc92 | replace hc92 := Z.nd_true hc92 | replace hc92 := Z.nd_false hc92 | replace hc92 := Z.nn_true hc92 | replace hc92 := Z.nn_false hc92 | replace hc92 := Z.nb_true hc92 | replace hc92 := Z.nb_false hc92)
                                        first
                                        | (exfalso; first | (cases hc92; done) | omega)
                                        | skip
                                          refine Z.j_region ?_
                                          refine Z.s_val (Z.pv_move rfl) ?_
                                          refine Z.s_val (Z.pv_fieldAddr (o' := 2) rfl Try.underlying33 rfl Try.sizeOf31 rfl) ?_
                                          refine Z.s_val (Z.pv_load1 rfl (by repeat (first | with_reducible exact Z.Take.here | apply Z.Take.there)) Try.isAgg31 (by rfl)) ?_
                                          refine Z.s_delete0 (k := o.t) rfl rfl Try.underlying29 kU64 (by repeat (first | with_reducible exact Z.Take.here | apply Z.Take.there)) ?_
                                          refine Z.j_nil ?_
                                          refine Z.j_blk ?_
                                          refine Z.j_then ?_
                                          refine Z.j_seq ?_
                                          first
                                          | (have hst := step_a (s := s) (o := o) (by omega) (by rw [hN]; exact hc106)
                                             rw [hN] at hst
                                             refine Z.j_cast (A := TabP tb (s.t.openT o.p o.t N)) (B := TabP tb (es os most idle abs (i + 1)).t) (by repeat (first | with_reducible exact Z.Take.here | apply Z.Take.there)) (by rw [hstep, hst]) ?_
                                             refine Z.j_cast (A := Z.MapP bb (Value.int .u64) (Value.int .i64) (Z.mput o.t N s.bm)) (B := Z.MapP bb (Value.int .u64) (Value.int .i64) (es os most idle abs (i + 1)).bm) (by repeat (first | with_reducible exact Z.Take.here | apply Z.Take.there)) (by rw [hstep, hst]) ?_
                                             refine Z.j_cast (A := Z.MapP pb (Value.int .u64) (Value.int .i64) (Z.mput o.t o.p s.pm)) (B := Z.MapP pb (Value.int .u64) (Value.int .i64) (es os most idle abs (i + 1)).pm) (by repeat (first | with_reducible exact Z.Take.here | apply Z.Take.there)) (by rw [hstep, hst]) ?_)
                                          | (have hst := step_b (s := s) (o := o) (by omega) (by rw [hN]; exact hc106)
                                             rw [hN] at hst
                                             refine Z.j_cast (A := TabP tb (s.t.openT o.p o.t N)) (B := TabP tb (es os most idle abs (i + 1)).t) (by repeat (first | with_reducible exact Z.Take.here | apply Z.Take.there)) (by rw [hstep, hst]) ?_
                                             refine Z.j_cast (A := Z.MapP bb (Value.int .u64) (Value.int .i64) s.bm) (B := Z.MapP bb (Value.int .u64) (Value.int .i64) (es os most idle abs (i + 1)).bm) (by repeat (first | with_reducible exact Z.Take.here | apply Z.Take.there)) (by rw [hstep, hst]) ?_
                                             refine Z.j_cast (A := Z.MapP pb (Value.int .u64) (Value.int .i64) s.pm) (B := Z.MapP pb (Value.int .u64) (Value.int .i64) (es os most idle abs (i + 1)).pm) (by repeat (first | with_reducible exact Z.Take.here | apply Z.Take.there)) (by rw [hstep, hst]) ?_)
                                          | (have hst := step_c (s := s) (o := o) (by omega) hc116
                                             rw [hN] at hst
                                             refine Z.j_cast (A := TabP tb (s.t.close o.t)) (B := TabP tb (es os most idle abs (i + 1)).t) (by repeat (first | with_reducible exact Z.Take.here | apply Z.Take.there)) (by rw [hstep, hst]) ?_
                                             refine Z.j_cast (A := Z.MapP bb (Value.int .u64) (Value.int .i64) (Z.mdel o.t s.bm)) (B := Z.MapP bb (Value.int .u64) (Value.int .i64) (es os most idle abs (i + 1)).bm) (by repeat (first | with_reducible exact Z.Take.here | apply Z.Take.there)) (by rw [hstep, hst]) ?_
                                             refine Z.j_cast (A := Z.MapP pb (Value.int .u64) (Value.int .i64) s.pm) (B := Z.MapP pb (Value.int .u64) (Value.int .i64) (es os most idle abs (i + 1)).pm) (by repeat (first | with_reducible exact Z.Take.here | apply Z.Take.there)) (by rw [hstep, hst]) ?_)
                                          | (have hst := step_d (s := s) (o := o) (by omega) hc116 (by rw [hN]; exact hc92)
                                             rw [hN] at hst
                                             refine Z.j_cast (A := TabP tb (s.t.useT o.t N)) (B := TabP tb (es os most idle abs (i + 1)).t) (by repeat (first | with_reducible exact Z.Take.here | apply Z.Take.there)) (by rw [hstep, hst]) ?_
                                             refine Z.j_cast (A := Z.MapP bb (Value.int .u64) (Value.int .i64) s.bm) (B := Z.MapP bb (Value.int .u64) (Value.int .i64) (es os most idle abs (i + 1)).bm) (by repeat (first | with_reducible exact Z.Take.here | apply Z.Take.there)) (by rw [hstep, hst]) ?_
                                             refine Z.j_cast (A := Z.MapP pb (Value.int .u64) (Value.int .i64) s.pm) (B := Z.MapP pb (Value.int .u64) (Value.int .i64) (es os most idle abs (i + 1)).pm) (by repeat (first | with_reducible exact Z.Take.here | apply Z.Take.there)) (by rw [hstep, hst]) ?_)
                                          | (have hst := step_e (s := s) (o := o) (by omega) hc116 (by rw [hN]; exact hc92)
                                             rw [hN] at hst
                                             refine Z.j_cast (A := TabP tb (s.t.useT o.t N)) (B := TabP tb (es os most idle abs (i + 1)).t) (by repeat (first | with_reducible exact Z.Take.here | apply Z.Take.there)) (by rw [hstep, hst]) ?_
                                             refine Z.j_cast (A := Z.MapP bb (Value.int .u64) (Value.int .i64) (Z.mdel o.t s.bm)) (B := Z.MapP bb (Value.int .u64) (Value.int .i64) (es os most idle abs (i + 1)).bm) (by repeat (first | with_reducible exact Z.Take.here | apply Z.Take.there)) (by rw [hstep, hst]) ?_
                                             refine Z.j_cast (A := Z.MapP pb (Value.int .u64) (Value.int .i64) s.pm) (B := Z.MapP pb (Value.int .u64) (Value.int .i64) (es os most idle abs (i + 1)).pm) (by repeat (first | with_reducible exact Z.Take.here | apply Z.Take.there)) (by rw [hstep, hst]) ?_)
                                          refine Z.j_region ?_
                                          refine Z.s_val (Z.pv_move rfl) ?_
                                          refine Z.s_callD rfl rfl rfl isFn13 (by repeat (first | with_reducible exact Z.Takes.nil | (apply Z.Takes.cons; (repeat (first | with_reducible exact Z.Take.here | apply Z.Take.there))))) (by repeat (first | exact Z.App.nil | apply Z.App.cons)) (len_spec _ tb (es os most idle abs (i + 1)).t) ?_
                                          refine Z.s_val (Z.pv_move rfl) ?_
                                          refine Z.s_val (Z.pv_gtr rfl rfl) ?_
                                          refine Z.j_nil ?_
                                          refine Z.j_then ?_
                                          refine Z.j_cond rfl (fun hc128 => ?_) (fun hc128 => ?_)
                                          · try (with_reducible first | replace hc128 := of_decide_eq_true hc128 | replace hc128 := of_decide_eq_false hc128 | replace hc128 := Z.nd_true hc128 | replace hc128 := Z.nd_false hc128 | replace hc128 := Z.nn_true hc128 | replace hc128 := Z.nn_false hc128 | replace hc128 := Z.nb_true hc128 | replace hc128 := Z.nb_false hc128)
                                            have := hEI2.len; omega
                                          · try (with_reducible first | replace hc128 := of_decide_eq_true hc128 | replace hc128 := of_decide_eq_false hc128 | replace hc128 := Z.nd_true hc128 | replace hc128 := Z.nd_false hc128 | replace hc128 := Z.nn_true hc128 | replace hc128 := Z.nn_false hc128 | replace hc128 := Z.nb_true hc128 | replace hc128 := Z.nb_false hc128)
                                            first
                                            | (exfalso; first | (cases hc128; done) | omega)
                                            | skip
                                              refine Z.j_skip ?_
                                              refine Z.j_blk ?_
                                              refine Z.j_then ?_
                                              refine Z.j_region ?_
                                              refine Z.s_val (Z.pv_add rfl rfl (by first | exact IntWalk.i64_in _ (by omega) | rfl)) ?_
                                              refine Z.s_val (Z.pv_move rfl) ?_
                                              refine Z.j_nil ?_
                                              refine Z.j_then ?_
                                              refine Z.s_is 13 rfl (show _ = Value.int .i64 (es os most idle abs (i + 1)).now from by rw [hstep, step_now, hN]) ?_
                                              (refine Z.j_nextG (X := { x : (Nat) // (x) ≤ n1 }) (EE := (fun (x : { x : (Nat) // (x) ≤ n1 }) => [(0, .int .i64 most), (1, .int .i64 idle), (2, .int .i64 abs), (3, .slice p1 n1 cap1), (9, .pointer (some ⟨tb, 0, none⟩)), (11, .map (some bb)), (12, .map (some pb)), (13, .int .i64 (es os most idle abs (x.1)).now), (42, .slice p1 n1 cap1), (43, .int .i64 n1), (44, .int .i64 ((x.1) : Nat))])) (LL := (fun (x : { x : (Nat) // (x) ≤ n1 }) => [TabP tb (es os most idle abs (x.1)).t, Z.MapP bb (Value.int .u64) (Value.int .i64) (es os most idle abs (x.1)).bm, Z.MapP pb (Value.int .u64) (Value.int .i64) (es os most idle abs (x.1)).pm])) (μ := (fun (x : { x : (Nat) // (x) ≤ n1 }) => n1 - (x.1))) (x := ⟨(i), hinv⟩) ⟨(i + 1), by omega⟩ ?_ ?_ ?_; (show n1 - (i + 1) < n1 - i; omega); (exact (by repeat (first | exact trivial | refine ⟨rfl, ?_⟩))); (exact Z.st_td (by repeat (first | with_reducible exact Z.Takes.nil | (apply Z.Takes.cons; (repeat (first | with_reducible exact Z.Take.here | apply Z.Take.there))))) (by repeat (first | with_reducible exact Z.Drop.nil | apply Z.Drop.cons))))
                                      · try (with_reducible first | replace hc92 := of_decide_eq_true hc92 | replace hc92 := of_decide_eq_false hc92 | replace hc92 := Z.nd_true hc92 | replace hc92 := Z.nd_false hc92 | replace hc92 := Z.nn_true hc92 | replace hc92 := Z.nn_false hc92 | replace hc92 := Z.nb_true hc92 | replace hc92 := Z.nb_false hc92)
                                        first
                                        | (exfalso; first | (cases hc92; done) | omega)
                                        | skip
                                          refine Z.j_skip ?_
                                          refine Z.j_blk ?_
                                          refine Z.j_then ?_
                                          refine Z.j_seq ?_
                                          first
                                          | (have hst := step_a (s := s) (o := o) (by omega) (by rw [hN]; exact hc106)
                                             rw [hN] at hst
                                             refine Z.j_cast (A := TabP tb (s.t.openT o.p o.t N)) (B := TabP tb (es os most idle abs (i + 1)).t) (by repeat (first | with_reducible exact Z.Take.here | apply Z.Take.there)) (by rw [hstep, hst]) ?_
                                             refine Z.j_cast (A := Z.MapP bb (Value.int .u64) (Value.int .i64) (Z.mput o.t N s.bm)) (B := Z.MapP bb (Value.int .u64) (Value.int .i64) (es os most idle abs (i + 1)).bm) (by repeat (first | with_reducible exact Z.Take.here | apply Z.Take.there)) (by rw [hstep, hst]) ?_
                                             refine Z.j_cast (A := Z.MapP pb (Value.int .u64) (Value.int .i64) (Z.mput o.t o.p s.pm)) (B := Z.MapP pb (Value.int .u64) (Value.int .i64) (es os most idle abs (i + 1)).pm) (by repeat (first | with_reducible exact Z.Take.here | apply Z.Take.there)) (by rw [hstep, hst]) ?_)
                                          | (have hst := step_b (s := s) (o := o) (by omega) (by rw [hN]; exact hc106)
                                             rw [hN] at hst
                                             refine Z.j_cast (A := TabP tb (s.t.openT o.p o.t N)) (B := TabP tb (es os most idle abs (i + 1)).t) (by repeat (first | with_reducible exact Z.Take.here | apply Z.Take.there)) (by rw [hstep, hst]) ?_
                                             refine Z.j_cast (A := Z.MapP bb (Value.int .u64) (Value.int .i64) s.bm) (B := Z.MapP bb (Value.int .u64) (Value.int .i64) (es os most idle abs (i + 1)).bm) (by repeat (first | with_reducible exact Z.Take.here | apply Z.Take.there)) (by rw [hstep, hst]) ?_
                                             refine Z.j_cast (A := Z.MapP pb (Value.int .u64) (Value.int .i64) s.pm) (B := Z.MapP pb (Value.int .u64) (Value.int .i64) (es os most idle abs (i + 1)).pm) (by repeat (first | with_reducible exact Z.Take.here | apply Z.Take.there)) (by rw [hstep, hst]) ?_)
                                          | (have hst := step_c (s := s) (o := o) (by omega) hc116
                                             rw [hN] at hst
                                             refine Z.j_cast (A := TabP tb (s.t.close o.t)) (B := TabP tb (es os most idle abs (i + 1)).t) (by repeat (first | with_reducible exact Z.Take.here | apply Z.Take.there)) (by rw [hstep, hst]) ?_
                                             refine Z.j_cast (A := Z.MapP bb (Value.int .u64) (Value.int .i64) (Z.mdel o.t s.bm)) (B := Z.MapP bb (Value.int .u64) (Value.int .i64) (es os most idle abs (i + 1)).bm) (by repeat (first | with_reducible exact Z.Take.here | apply Z.Take.there)) (by rw [hstep, hst]) ?_
                                             refine Z.j_cast (A := Z.MapP pb (Value.int .u64) (Value.int .i64) s.pm) (B := Z.MapP pb (Value.int .u64) (Value.int .i64) (es os most idle abs (i + 1)).pm) (by repeat (first | with_reducible exact Z.Take.here | apply Z.Take.there)) (by rw [hstep, hst]) ?_)
                                          | (have hst := step_d (s := s) (o := o) (by omega) hc116 (by rw [hN]; exact hc92)
                                             rw [hN] at hst
                                             refine Z.j_cast (A := TabP tb (s.t.useT o.t N)) (B := TabP tb (es os most idle abs (i + 1)).t) (by repeat (first | with_reducible exact Z.Take.here | apply Z.Take.there)) (by rw [hstep, hst]) ?_
                                             refine Z.j_cast (A := Z.MapP bb (Value.int .u64) (Value.int .i64) s.bm) (B := Z.MapP bb (Value.int .u64) (Value.int .i64) (es os most idle abs (i + 1)).bm) (by repeat (first | with_reducible exact Z.Take.here | apply Z.Take.there)) (by rw [hstep, hst]) ?_
                                             refine Z.j_cast (A := Z.MapP pb (Value.int .u64) (Value.int .i64) s.pm) (B := Z.MapP pb (Value.int .u64) (Value.int .i64) (es os most idle abs (i + 1)).pm) (by repeat (first | with_reducible exact Z.Take.here | apply Z.Take.there)) (by rw [hstep, hst]) ?_)
                                          | (have hst := step_e (s := s) (o := o) (by omega) hc116 (by rw [hN]; exact hc92)
                                             rw [hN] at hst
                                             refine Z.j_cast (A := TabP tb (s.t.useT o.t N)) (B := TabP tb (es os most idle abs (i + 1)).t) (by repeat (first | with_reducible exact Z.Take.here | apply Z.Take.there)) (by rw [hstep, hst]) ?_
                                             refine Z.j_cast (A := Z.MapP bb (Value.int .u64) (Value.int .i64) (Z.mdel o.t s.bm)) (B := Z.MapP bb (Value.int .u64) (Value.int .i64) (es os most idle abs (i + 1)).bm) (by repeat (first | with_reducible exact Z.Take.here | apply Z.Take.there)) (by rw [hstep, hst]) ?_
                                             refine Z.j_cast (A := Z.MapP pb (Value.int .u64) (Value.int .i64) s.pm) (B := Z.MapP pb (Value.int .u64) (Value.int .i64) (es os most idle abs (i + 1)).pm) (by repeat (first | with_reducible exact Z.Take.here | apply Z.Take.there)) (by rw [hstep, hst]) ?_)
                                          refine Z.j_region ?_
                                          refine Z.s_val (Z.pv_move rfl) ?_
                                          refine Z.s_callD rfl rfl rfl isFn13 (by repeat (first | with_reducible exact Z.Takes.nil | (apply Z.Takes.cons; (repeat (first | with_reducible exact Z.Take.here | apply Z.Take.there))))) (by repeat (first | exact Z.App.nil | apply Z.App.cons)) (len_spec _ tb (es os most idle abs (i + 1)).t) ?_
                                          refine Z.s_val (Z.pv_move rfl) ?_
                                          refine Z.s_val (Z.pv_gtr rfl rfl) ?_
                                          refine Z.j_nil ?_
                                          refine Z.j_then ?_
                                          refine Z.j_cond rfl (fun hc128 => ?_) (fun hc128 => ?_)
                                          · try (with_reducible first | replace hc128 := of_decide_eq_true hc128 | replace hc128 := of_decide_eq_false hc128 | replace hc128 := Z.nd_true hc128 | replace hc128 := Z.nd_false hc128 | replace hc128 := Z.nn_true hc128 | replace hc128 := Z.nn_false hc128 | replace hc128 := Z.nb_true hc128 | replace hc128 := Z.nb_false hc128)
                                            have := hEI2.len; omega
                                          · try (with_reducible first | replace hc128 := of_decide_eq_true hc128 | replace hc128 := of_decide_eq_false hc128 | replace hc128 := Z.nd_true hc128 | replace hc128 := Z.nd_false hc128 | replace hc128 := Z.nn_true hc128 | replace hc128 := Z.nn_false hc128 | replace hc128 := Z.nb_true hc128 | replace hc128 := Z.nb_false hc128)
                                            first
                                            | (exfalso; first | (cases hc128; done) | omega)
                                            | skip
                                              refine Z.j_skip ?_
                                              refine Z.j_blk ?_
                                              refine Z.j_then ?_
                                              refine Z.j_region ?_
                                              refine Z.s_val (Z.pv_add rfl rfl (by first | exact IntWalk.i64_in _ (by omega) | rfl)) ?_
                                              refine Z.s_val (Z.pv_move rfl) ?_
                                              refine Z.j_nil ?_
                                              refine Z.j_then ?_
                                              refine Z.s_is 13 rfl (show _ = Value.int .i64 (es os most idle abs (i + 1)).now from by rw [hstep, step_now, hN]) ?_
                                              (refine Z.j_nextG (X := { x : (Nat) // (x) ≤ n1 }) (EE := (fun (x : { x : (Nat) // (x) ≤ n1 }) => [(0, .int .i64 most), (1, .int .i64 idle), (2, .int .i64 abs), (3, .slice p1 n1 cap1), (9, .pointer (some ⟨tb, 0, none⟩)), (11, .map (some bb)), (12, .map (some pb)), (13, .int .i64 (es os most idle abs (x.1)).now), (42, .slice p1 n1 cap1), (43, .int .i64 n1), (44, .int .i64 ((x.1) : Nat))])) (LL := (fun (x : { x : (Nat) // (x) ≤ n1 }) => [TabP tb (es os most idle abs (x.1)).t, Z.MapP bb (Value.int .u64) (Value.int .i64) (es os most idle abs (x.1)).bm, Z.MapP pb (Value.int .u64) (Value.int .i64) (es os most idle abs (x.1)).pm])) (μ := (fun (x : { x : (Nat) // (x) ≤ n1 }) => n1 - (x.1))) (x := ⟨(i), hinv⟩) ⟨(i + 1), by omega⟩ ?_ ?_ ?_; (show n1 - (i + 1) < n1 - i; omega); (exact (by repeat (first | exact trivial | refine ⟨rfl, ?_⟩))); (exact Z.st_td (by repeat (first | with_reducible exact Z.Takes.nil | (apply Z.Takes.cons; (repeat (first | with_reducible exact Z.Take.here | apply Z.Take.there))))) (by repeat (first | with_reducible exact Z.Drop.nil | apply Z.Drop.cons))))
              · try (with_reducible first | replace hc45 := of_decide_eq_true hc45 | replace hc45 := of_decide_eq_false hc45 | replace hc45 := Z.nd_true hc45 | replace hc45 := Z.nd_false hc45 | replace hc45 := Z.nn_true hc45 | replace hc45 := Z.nn_false hc45 | replace hc45 := Z.nb_true hc45 | replace hc45 := Z.nb_false hc45)
                first
                | (exfalso; first | (cases hc45; done) | omega)
                | skip
                  have eN : n1 = i := by omega
                  subst eN
                  have hEI := es_EI os (most := most) (idle := idle) (abs := abs) (by omega) n1
                  have e0 := hEI.now0
                  have e1 := hEI.now1
                  have hlk := hEI.lek
                  have hok := hEI.ok (by omega)
                  have hmx := mx_bd idle abs
                  refine Z.j_exit ?_
                  refine Z.j_then_exit ?_
                  refine Z.j_then_exit ?_
                  refine Z.j_blk_here rfl ?_
                  refine Z.j_then ?_
                  refine Z.j_seq ?_
                  refine Z.j_region ?_
                  refine Z.s_val (Z.pv_move rfl) ?_
                  refine Z.s_callD rfl rfl rfl isFn13 (by repeat (first | with_reducible exact Z.Takes.nil | (apply Z.Takes.cons; (repeat (first | with_reducible exact Z.Take.here | apply Z.Take.there))))) (by repeat (first | exact Z.App.nil | apply Z.App.cons)) (len_spec _ tb (es os most idle abs n1).t) ?_
                  refine Z.s_val (Z.pv_assign rfl) ?_
                  refine Z.j_nil ?_
                  refine Z.j_then ?_
                  refine Z.j_seq ?_
                  refine Z.j_region ?_
                  refine Z.s_val (Z.pv_move rfl) ?_
                  refine Z.s_val (Z.pv_move rfl) ?_
                  refine Z.s_val (Z.pv_move rfl) ?_
                  refine Z.s_val (Z.pv_move rfl) ?_
                  refine Z.s_val (Z.pv_max rfl rfl) ?_
                  refine Z.s_val (Z.pv_add rfl rfl (by first | exact IntWalk.i64_in _ (by omega) | rfl)) ?_
                  refine Z.s_callD rfl rfl rfl isFn14 (by repeat (first | with_reducible exact Z.Takes.nil | (apply Z.Takes.cons; (repeat (first | with_reducible exact Z.Take.here | apply Z.Take.there))))) (by repeat (first | exact Z.App.nil | apply Z.App.cons)) (sweep_is (t := (es os most idle abs n1).t) (T' := { (es os most idle abs n1).t with m := [] }) (n := (es os most idle abs n1).t.m.length) hok (hEI.end_ (by omega) hi2 ha) (by simp)) ?_
                  refine Z.s_val (Z.pv_move rfl) ?_
                  refine Z.s_val (Z.pv_eql rfl rfl) ?_
                  refine Z.s_val (Z.pv_move rfl) ?_
                  refine Z.s_is 141 rfl (show _ = Value.bool true from (by rw [decide_eq_true rfl])) ?_
                  refine Z.s_val (Z.pv_move rfl) ?_
                  refine Z.s_callD rfl rfl rfl isFn13 (by repeat (first | with_reducible exact Z.Takes.nil | (apply Z.Takes.cons; (repeat (first | with_reducible exact Z.Take.here | apply Z.Take.there))))) (by repeat (first | exact Z.App.nil | apply Z.App.cons)) (len_spec _ tb { (es os most idle abs n1).t with m := [] }) ?_
                  refine Z.s_val (Z.pv_eql rfl rfl) ?_
                  refine Z.s_val (Z.pv_pick rfl rfl) ?_
                  refine Z.s_val (Z.pv_assign rfl) ?_
                  refine Z.j_nil ?_
                  refine Z.j_then ?_
                  refine Z.j_ret ?_
                  refine Z.j_done_ret (Z.rv1 (Z.rv_tmp (t := 8) rfl)) ?_
                  exact Z.post_of ⟨by first | rfl | (congr 1; exact decide_eq_true (by omega)), rfl⟩ (by repeat (first | with_reducible exact Z.Takes.nil | (apply Z.Takes.cons; (repeat (first | with_reducible exact Z.Take.here | apply Z.Take.there))))) (by repeat (first | with_reducible exact Z.Drop.nil | apply Z.Drop.cons))

end Go.Proofs.Ytjilnmjjehkidaa
