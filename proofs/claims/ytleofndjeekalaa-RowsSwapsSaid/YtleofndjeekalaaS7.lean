/- Rows: RowsSwaps. -/
import Derived.Test.YtleofndjeekalaaS6
import Derived.Test.YtleofndjeekalaaC5
namespace Go.Proofs.Ytleofndjeekalaa
open Go Go.RowKit
set_option maxHeartbeats 4000000 in
set_option maxRecDepth 100000 in
theorem swaps_law (w0 : World) (p : Option Addr) (n cap : Nat) (os : List OpR) (hn : os.length = n) (hro : 0 < n → ∃ b o, p = some ⟨b, o, none⟩ ∧ Z.Ro w0 b o (os.flatMap OpR.c)) (cl ck : Int) : Z.FnD Try.prog w0 5 [.slice p n cap, .agg #[.int .i64 cl, .int .u32 ck]] [] (.bool true) [] := by
  refine Z.Fn.fnD ?_
  refine Z.fn_enterM (n := 138) Try.func5 rfl (by rfl) (by rfl) (fun Fr => ?_)
  refine Z.j_app (by repeat (first | exact Z.App.nil | apply Z.App.cons)) ?_
  refine Z.j_seq ?_
  refine Z.j_region ?_
  refine Z.s_box rfl (fun b3 => ?_)
  refine Z.s_val (Z.pv_assign rfl) ?_
  refine Z.j_nil ?_
  refine Z.j_then ?_
  refine Z.j_seq ?_
  refine Z.j_seq ?_
  refine Z.j_region ?_
  refine Z.s_callD rfl rfl rfl isFn7 (by repeat (first | with_reducible exact Z.Takes.nil | (apply Z.Takes.cons; (repeat (first | with_reducible exact Z.Take.here | apply Z.Take.there))))) (by repeat (first | exact Z.App.nil | apply Z.App.cons)) (alive_spec _) ?_
  refine Z.s_val (Z.pv_not rfl) ?_
  refine Z.j_nil ?_
  refine Z.j_then ?_
  refine Z.j_cond rfl (fun hc24 => ?_) (fun hc24 => ?_)
  · exfalso; first | (cases hc24; done) | (simp at hc24; done) | (simp at hc24; omega)
  · try (with_reducible first | replace hc24 := of_decide_eq_true hc24 | replace hc24 := of_decide_eq_false hc24 | replace hc24 := Z.nd_true hc24 | replace hc24 := Z.nd_false hc24 | replace hc24 := Z.nn_true hc24 | replace hc24 := Z.nn_false hc24 | replace hc24 := Z.nb_true hc24 | replace hc24 := Z.nb_false hc24)
    first
    | (exfalso; first | (cases hc24; done) | omega)
    | skip
      refine Z.j_skip ?_
      refine Z.j_then ?_
      refine Z.j_seq ?_
      refine Z.j_seq ?_
      refine Z.j_region ?_
      refine Z.s_val (Z.pv_move rfl) ?_
      refine Z.s_val (Z.pv_len rfl Try.underlying22) ?_
      refine Z.s_val (Z.pv_gtr rfl rfl) ?_
      refine Z.j_nil ?_
      refine Z.j_then ?_
      refine Z.j_cond rfl (fun hc27 => ?_) (fun hc27 => ?_)
      · try (with_reducible first | replace hc27 := of_decide_eq_true hc27 | replace hc27 := of_decide_eq_false hc27 | replace hc27 := Z.nd_true hc27 | replace hc27 := Z.nd_false hc27 | replace hc27 := Z.nn_true hc27 | replace hc27 := Z.nn_false hc27 | replace hc27 := Z.nb_true hc27 | replace hc27 := Z.nb_false hc27)
        first
        | (exfalso; first | (cases hc27; done) | omega)
        | skip
          refine Z.j_seq ?_
          refine Z.j_region ?_
          refine Z.s_val (Z.pv_assign rfl) ?_
          refine Z.j_nil ?_
          refine Z.j_then ?_
          refine Z.j_ret ?_
          refine Z.j_then_ret ?_
          refine Z.j_doneM_ret (bs := []) .nil (Z.rv1 (Z.rv_tmp (t := 4) rfl)) ?_
          first | exact Z.post_of ⟨rfl, rfl⟩ (by repeat (first | with_reducible exact Z.Takes.nil | (apply Z.Takes.cons; (repeat (first | with_reducible exact Z.Take.here | apply Z.Take.there))))) (by repeat (first | with_reducible exact Z.Drop.nil | apply Z.Drop.cons)) | exact Z.post_of ⟨congrArg Value.bool again_seen, rfl⟩ (by repeat (first | with_reducible exact Z.Takes.nil | (apply Z.Takes.cons; (repeat (first | with_reducible exact Z.Take.here | apply Z.Take.there))))) (by repeat (first | with_reducible exact Z.Drop.nil | apply Z.Drop.cons))
      · try (with_reducible first | replace hc27 := of_decide_eq_true hc27 | replace hc27 := of_decide_eq_false hc27 | replace hc27 := Z.nd_true hc27 | replace hc27 := Z.nd_false hc27 | replace hc27 := Z.nn_true hc27 | replace hc27 := Z.nn_false hc27 | replace hc27 := Z.nb_true hc27 | replace hc27 := Z.nb_false hc27)
        first
        | (exfalso; first | (cases hc27; done) | omega)
        | skip
          refine Z.j_skip ?_
          refine Z.j_then ?_
          refine Z.j_seq ?_
          refine Z.j_region ?_
          refine Z.s_alloc Try.zeroValue29 (fun b5 => ?_)
          refine Z.j_nil ?_
          refine Z.j_then ?_
          refine Z.j_seq ?_
          refine Z.j_seq ?_
          refine Z.j_fold (A := RowP b5 (rs os 0)) (As := [Z.cl b5 29 [.map none, .map none, .int .i64 0]]) (by repeat (first | with_reducible exact Z.Takes.nil | (apply Z.Takes.cons; (repeat (first | with_reducible exact Z.Take.here | apply Z.Take.there))))) (fun _ H => rowP_none (r := RSt.z) rfl rfl H) ?_
          refine Z.j_region ?_
          refine Z.s_val (Z.pv_move rfl) ?_
          refine Z.s_val (Z.pv_len rfl Try.underlying22) ?_
          refine Z.s_val (Z.pv_move rfl) ?_
          refine Z.j_nil ?_
          refine Z.j_then ?_
          refine Z.j_block ?_
          refine Z.j_initF (E' := [(3, .pointer (some ⟨b3, 0, none⟩)), (5, .pointer (some ⟨b5, 0, none⟩)), (28, .slice p n cap), (29, .int .i64 n), (30, .int .i64 ((0) : Nat))]) (As := [RowP b5 (rs os (0)), Z.cl b3 36 [.int .i64 cl, .int .u32 ck]]) (Fr := Fr) (by repeat (first | exact trivial | refine ⟨rfl, ?_⟩)) (by repeat (first | with_reducible exact Z.Takes.nil | (apply Z.Takes.cons; (repeat (first | with_reducible exact Z.Take.here | apply Z.Take.there))))) (by repeat (first | with_reducible exact Z.Drop.nil | apply Z.Drop.cons)) ?_
          refine Z.j_loop (X := { x : (Nat) // (x) ≤ n }) (fun (x : { x : (Nat) // (x) ≤ n }) => [(3, .pointer (some ⟨b3, 0, none⟩)), (5, .pointer (some ⟨b5, 0, none⟩)), (28, .slice p n cap), (29, .int .i64 n), (30, .int .i64 ((x.1) : Nat))]) (fun x => (fun (x : { x : (Nat) // (x) ≤ n }) => [RowP b5 (rs os (x.1)), Z.cl b3 36 [.int .i64 cl, .int .u32 ck]]) x ++ Fr) (fun (x : { x : (Nat) // (x) ≤ n }) => n - (x.1)) ⟨(0), by omega⟩ (fun x => ?_)
          obtain ⟨i, hinv⟩ := x
          have hinv' : i ≤ n := hinv
          have hi := hinv'
          show Z.J _ _ _ ([(3, .pointer (some ⟨b3, 0, none⟩)), (5, .pointer (some ⟨b5, 0, none⟩)), (28, .slice p n cap), (29, .int .i64 n), (30, .int .i64 (i : Nat))]) ([RowP b5 (rs os i), Z.cl b3 36 [.int .i64 cl, .int .u32 ck]] ++ Fr) _
          refine Z.j_app (by repeat (first | exact Z.App.nil | apply Z.App.cons)) ?_
          refine Z.j_seq ?_
          refine Z.j_region ?_
          refine Z.s_val (Z.pv_lss rfl rfl) ?_
          refine Z.j_nil ?_
          refine Z.j_then ?_
          refine Z.j_seq ?_
          refine Z.j_cond rfl (fun hc31 => ?_) (fun hc31 => ?_)
          · try (with_reducible first | replace hc31 := of_decide_eq_true hc31 | replace hc31 := of_decide_eq_false hc31 | replace hc31 := Z.nd_true hc31 | replace hc31 := Z.nd_false hc31 | replace hc31 := Z.nn_true hc31 | replace hc31 := Z.nn_false hc31 | replace hc31 := Z.nb_true hc31 | replace hc31 := Z.nb_false hc31)
            first
            | (exfalso; first | (cases hc31; done) | omega)
            | skip
              obtain ⟨b1, o1, e1, hr1⟩ := hro (by omega)
              refine Z.j_skip ?_
              refine Z.j_then ?_
              refine Z.j_seq ?_
              refine Z.j_block ?_
              refine Z.j_seq ?_
              refine Z.j_region ?_
              refine Z.s_val (Z.pv_indexAddr (o' := o1 + i * 3) (b := b1) (o := o1) (len := n) (cap := cap) (by show some (Value.slice p n cap) = _; rw [e1]) rfl Try.underlying22 Try.sizeOf38 (by omega) (by simp)) ?_
              refine Z.s_val (Z.pv_loadAr (b := b1) (o := o1) (j := i * 3) rfl hr1 rfl Try.isAgg38 Try.sizeOf38 (slc_op (by omega))) ?_
              refine Z.s_alloc Try.zeroValue38 (fun b7 => ?_)
              refine Z.s_storeA rfl rfl Try.sizeOf38 rfl (by repeat (first | with_reducible exact Z.Upd.here | apply Z.Upd.there)) (by rfl) ?_
              refine Z.j_nil ?_
              refine Z.j_then ?_
              refine Z.j_seq ?_
              refine Z.j_region ?_
              refine Z.s_val (Z.pv_fieldAddr (o' := 0) rfl Try.underlying38 rfl Try.sizeOf3 rfl) ?_
              refine Z.s_val (Z.pv_load1 rfl (by repeat (first | with_reducible exact Z.Take.here | apply Z.Take.there)) Try.isAgg3 (by rfl)) ?_
              refine Z.s_val (Z.pv_eql rfl rfl) ?_
              refine Z.j_nil ?_
              refine Z.j_then ?_
              refine Z.j_cond rfl (fun hc36 => ?_) (fun hc36 => ?_)
              · try (with_reducible first | replace hc36 := of_decide_eq_true hc36 | replace hc36 := of_decide_eq_false hc36 | replace hc36 := Z.nd_true hc36 | replace hc36 := Z.nd_false hc36 | replace hc36 := Z.nn_true hc36 | replace hc36 := Z.nn_false hc36 | replace hc36 := Z.nb_true hc36 | replace hc36 := Z.nb_false hc36)
                first
                | (exfalso; first | (cases hc36; done) | omega)
                | skip
                  refine Z.j_region ?_
                  refine Z.s_val (Z.pv_fieldAddr (o' := 1) rfl Try.underlying38 rfl Try.sizeOf36 rfl) ?_
                  refine Z.s_val (Z.pv_loadA rfl (by repeat (first | with_reducible exact Z.Take.here | apply Z.Take.there)) Try.isAgg36 Try.sizeOf36 (by rfl)) ?_
                  refine Z.s_callD rfl rfl rfl isFn13 (by repeat (first | with_reducible exact Z.Takes.nil | (apply Z.Takes.cons; (repeat (first | with_reducible exact Z.Take.here | apply Z.Take.there))))) (by repeat (first | exact Z.App.nil | apply Z.App.cons)) (drop_spec _ _ (rs os i) _ _) ?_
                  refine Z.j_nil ?_
                  refine Z.j_blk ?_
                  refine Z.j_then ?_
                  refine Z.j_region ?_
                  refine Z.s_val (Z.pv_add rfl rfl (by first | exact IntWalk.i64_in _ (by omega) | rfl)) ?_
                  refine Z.s_val (Z.pv_move rfl) ?_
                  refine Z.j_nil ?_
                  refine Z.j_then ?_
                  first
                  | (refine Z.j_cast (A := RowP b5 ((rs os i).drop ⟨(os.getD i OpR.z).l, (os.getD i OpR.z).k⟩)) (B := RowP b5 (rs os (i + 1))) (by repeat (first | with_reducible exact Z.Take.here | apply Z.Take.there)) (by rw [rs_drop hc36]) ?_)
                  | (refine Z.j_cast (A := RowP b5 ((rs os i).put ⟨(os.getD i OpR.z).l, (os.getD i OpR.z).k⟩)) (B := RowP b5 (rs os (i + 1))) (by repeat (first | with_reducible exact Z.Take.here | apply Z.Take.there)) (by rw [rs_put hc36]) ?_)
                  (refine Z.j_nextG (X := { x : (Nat) // (x) ≤ n }) (EE := (fun (x : { x : (Nat) // (x) ≤ n }) => [(3, .pointer (some ⟨b3, 0, none⟩)), (5, .pointer (some ⟨b5, 0, none⟩)), (28, .slice p n cap), (29, .int .i64 n), (30, .int .i64 ((x.1) : Nat))])) (LL := (fun (x : { x : (Nat) // (x) ≤ n }) => [RowP b5 (rs os (x.1)), Z.cl b3 36 [.int .i64 cl, .int .u32 ck]])) (μ := (fun (x : { x : (Nat) // (x) ≤ n }) => n - (x.1))) (x := ⟨(i), hinv⟩) ⟨(i + 1), by omega⟩ ?_ ?_ ?_; (show n - (i + 1) < n - i; omega); (exact (by repeat (first | exact trivial | refine ⟨rfl, ?_⟩))); (exact Z.st_td (by repeat (first | with_reducible exact Z.Takes.nil | (apply Z.Takes.cons; (repeat (first | with_reducible exact Z.Take.here | apply Z.Take.there))))) (by repeat (first | with_reducible exact Z.Drop.nil | apply Z.Drop.cons))))
              · try (with_reducible first | replace hc36 := of_decide_eq_true hc36 | replace hc36 := of_decide_eq_false hc36 | replace hc36 := Z.nd_true hc36 | replace hc36 := Z.nd_false hc36 | replace hc36 := Z.nn_true hc36 | replace hc36 := Z.nn_false hc36 | replace hc36 := Z.nb_true hc36 | replace hc36 := Z.nb_false hc36)
                first
                | (exfalso; first | (cases hc36; done) | omega)
                | skip
                  refine Z.j_region ?_
                  refine Z.s_val (Z.pv_fieldAddr (o' := 1) rfl Try.underlying38 rfl Try.sizeOf36 rfl) ?_
                  refine Z.s_val (Z.pv_loadA rfl (by repeat (first | with_reducible exact Z.Take.here | apply Z.Take.there)) Try.isAgg36 Try.sizeOf36 (by rfl)) ?_
                  refine Z.s_callD rfl rfl rfl isFn11 (by repeat (first | with_reducible exact Z.Takes.nil | (apply Z.Takes.cons; (repeat (first | with_reducible exact Z.Take.here | apply Z.Take.there))))) (by repeat (first | exact Z.App.nil | apply Z.App.cons)) (put_spec _ _ (rs os i) _ _ (rs_ok os i (by omega)).1.l0 (rs_ok os i (by omega)).1.l1) ?_
                  refine Z.j_nil ?_
                  refine Z.j_blk ?_
                  refine Z.j_then ?_
                  refine Z.j_region ?_
                  refine Z.s_val (Z.pv_add rfl rfl (by first | exact IntWalk.i64_in _ (by omega) | rfl)) ?_
                  refine Z.s_val (Z.pv_move rfl) ?_
                  refine Z.j_nil ?_
                  refine Z.j_then ?_
                  first
                  | (refine Z.j_cast (A := RowP b5 ((rs os i).drop ⟨(os.getD i OpR.z).l, (os.getD i OpR.z).k⟩)) (B := RowP b5 (rs os (i + 1))) (by repeat (first | with_reducible exact Z.Take.here | apply Z.Take.there)) (by rw [rs_drop hc36]) ?_)
                  | (refine Z.j_cast (A := RowP b5 ((rs os i).put ⟨(os.getD i OpR.z).l, (os.getD i OpR.z).k⟩)) (B := RowP b5 (rs os (i + 1))) (by repeat (first | with_reducible exact Z.Take.here | apply Z.Take.there)) (by rw [rs_put hc36]) ?_)
                  (refine Z.j_nextG (X := { x : (Nat) // (x) ≤ n }) (EE := (fun (x : { x : (Nat) // (x) ≤ n }) => [(3, .pointer (some ⟨b3, 0, none⟩)), (5, .pointer (some ⟨b5, 0, none⟩)), (28, .slice p n cap), (29, .int .i64 n), (30, .int .i64 ((x.1) : Nat))])) (LL := (fun (x : { x : (Nat) // (x) ≤ n }) => [RowP b5 (rs os (x.1)), Z.cl b3 36 [.int .i64 cl, .int .u32 ck]])) (μ := (fun (x : { x : (Nat) // (x) ≤ n }) => n - (x.1))) (x := ⟨(i), hinv⟩) ⟨(i + 1), by omega⟩ ?_ ?_ ?_; (show n - (i + 1) < n - i; omega); (exact (by repeat (first | exact trivial | refine ⟨rfl, ?_⟩))); (exact Z.st_td (by repeat (first | with_reducible exact Z.Takes.nil | (apply Z.Takes.cons; (repeat (first | with_reducible exact Z.Take.here | apply Z.Take.there))))) (by repeat (first | with_reducible exact Z.Drop.nil | apply Z.Drop.cons))))
          · try (with_reducible first | replace hc31 := of_decide_eq_true hc31 | replace hc31 := of_decide_eq_false hc31 | replace hc31 := Z.nd_true hc31 | replace hc31 := Z.nd_false hc31 | replace hc31 := Z.nn_true hc31 | replace hc31 := Z.nn_false hc31 | replace hc31 := Z.nb_true hc31 | replace hc31 := Z.nb_false hc31)
            first
            | (exfalso; first | (cases hc31; done) | omega)
            | skip
              have hin : i = n := by omega
              subst hin
              obtain ⟨r, hr0⟩ : ∃ r, rs os i = r := ⟨_, rfl⟩
              obtain ⟨hok, hla, hT⟩ := rs_ok os i (by omega)
              rw [hr0] at hok hla hT
              rw [hr0]
              have hl0 := hok.l0
              have hlen := hok.len
              have helen := hok.elen
              have hss := ss1000 (ver := r.ver) (by omega)
              have h20 : 0 ≤ ((r.drop (⟨cl, ck⟩ : Cell)).put (⟨cl, ck⟩ : Cell)).last := by show 0 ≤ r.last + 1; omega
              have h21 : ((r.drop (⟨cl, ck⟩ : Cell)).put (⟨cl, ck⟩ : Cell)).last ≤ 1000 := by show r.last + 1 ≤ 1000; omega
              refine Z.j_exit ?_
              refine Z.j_then_exit ?_
              refine Z.j_then_exit ?_
              refine Z.j_blk_here rfl ?_
              refine Z.j_then ?_
              refine Z.j_seq ?_
              refine Z.j_region ?_
              refine Z.s_call rfl rfl rfl isFn19 (by repeat (first | with_reducible exact Z.Takes.nil | (apply Z.Takes.cons; (repeat (first | with_reducible exact Z.Take.here | apply Z.Take.there))))) (cells_spec _ _ r 1000 hok) ?_
              rintro _ _ ⟨vx, vy, rfl, rfl⟩
              refine Z.j_app (by repeat (first | exact Z.App.nil | apply Z.App.cons)) ?_
              refine Z.s_val (Z.pv_move rfl) ?_
              refine Z.s_val (Z.pv_extract rfl rfl) ?_
              refine Z.s_val (Z.pv_extract rfl rfl) ?_
              refine Z.s_val (Z.pv_assign rfl) ?_
              refine Z.s_val (Z.pv_assign rfl) ?_
              refine Z.j_nil ?_
              refine Z.j_then ?_
              refine Z.j_seq ?_
              rw [hss, pairs_fst, pairs_snd, pairsR_len]
              refine Z.j_draw (vals := [_, _, _, _, _, _, _]) 7 (by kernel_rfl) (by kernel_rfl) rfl (by rfl) (Z.heads_cons (Z.hq_callD (by rfl) (by rfl) (by rfl) isFn20 (by repeat (first | with_reducible exact Z.Takes.nil | (apply Z.Takes.cons; (repeat (first | with_reducible exact Z.Take.here | apply Z.Take.there))))) (by repeat (first | with_reducible exact Z.Takes.nil | (apply Z.Takes.cons; (repeat (first | with_reducible exact Z.Take.here | apply Z.Take.there))))) (live_spec _ _ r)) (Z.heads_cons (Z.hq_callD (by rfl) (by rfl) (by rfl) isFn17 (by repeat (first | with_reducible exact Z.Takes.nil | (apply Z.Takes.cons; (repeat (first | with_reducible exact Z.Take.here | apply Z.Take.there))))) (by repeat (first | with_reducible exact Z.Takes.nil | (apply Z.Takes.cons; (repeat (first | with_reducible exact Z.Take.here | apply Z.Take.there))))) (ever_spec _ _ r)) (Z.heads_cons (Z.hq_val (Z.pv_loadA (by rfl) (by repeat (first | with_reducible exact Z.Take.here | apply Z.Take.there)) Try.isAgg36 (by exact Try.sizeOf36) (by rfl))) (Z.heads_cons (Z.hq_callD (by rfl) (by rfl) (by rfl) isFn15 (by repeat (first | with_reducible exact Z.Takes.nil | (apply Z.Takes.cons; (repeat (first | with_reducible exact Z.Take.here | apply Z.Take.there))))) (by repeat (first | with_reducible exact Z.Takes.nil | (apply Z.Takes.cons; (repeat (first | with_reducible exact Z.Take.here | apply Z.Take.there))))) (seen_spec _ _ r _ _)) (Z.heads_cons (Z.hq_val (Z.pv_assign (by rfl))) (Z.heads_cons (Z.hq_val (Z.pv_assign (by rfl))) (Z.heads_cons (Z.hq_val (Z.pv_assign (by rfl))) Z.heads_nil))))))) ?_
              refine Z.j_nil ?_
              refine Z.j_then ?_
              refine Z.j_seq ?_
              refine Z.j_region ?_
              refine Z.s_val (Z.pv_loadA rfl (by repeat (first | with_reducible exact Z.Take.here | apply Z.Take.there)) Try.isAgg36 Try.sizeOf36 (by rfl)) ?_
              refine Z.s_callD rfl rfl rfl isFn14 (by repeat (first | with_reducible exact Z.Takes.nil | (apply Z.Takes.cons; (repeat (first | with_reducible exact Z.Take.here | apply Z.Take.there))))) (by repeat (first | exact Z.App.nil | apply Z.App.cons)) (version_spec _ _ r _ _) ?_
              refine Z.s_val (Z.pv_move rfl) ?_
              refine Z.s_val (Z.pv_extract rfl rfl) ?_
              refine Z.s_val (Z.pv_extract rfl rfl) ?_
              refine Z.s_val (Z.pv_assign rfl) ?_
              refine Z.s_val (Z.pv_assign rfl) ?_
              refine Z.j_nil ?_
              refine Z.j_then ?_
              refine Z.j_seq ?_
              refine Z.j_region ?_
              refine Z.s_val (Z.pv_loadA rfl (by repeat (first | with_reducible exact Z.Take.here | apply Z.Take.there)) Try.isAgg36 Try.sizeOf36 (by rfl)) ?_
              refine Z.s_callD rfl rfl rfl isFn13 (by repeat (first | with_reducible exact Z.Takes.nil | (apply Z.Takes.cons; (repeat (first | with_reducible exact Z.Take.here | apply Z.Take.there))))) (by repeat (first | exact Z.App.nil | apply Z.App.cons)) (drop_spec _ _ r cl ck) ?_
              refine Z.j_nil ?_
              refine Z.j_then ?_
              refine Z.j_seq ?_
              refine Z.j_region ?_
              refine Z.s_val (Z.pv_loadA rfl (by repeat (first | with_reducible exact Z.Take.here | apply Z.Take.there)) Try.isAgg36 Try.sizeOf36 (by rfl)) ?_
              refine Z.s_callD rfl rfl rfl isFn11 (by repeat (first | with_reducible exact Z.Takes.nil | (apply Z.Takes.cons; (repeat (first | with_reducible exact Z.Take.here | apply Z.Take.there))))) (by repeat (first | exact Z.App.nil | apply Z.App.cons)) (put_spec _ _ (r.drop (⟨cl, ck⟩ : Cell)) cl ck hok.l0 hok.l1) ?_
              refine Z.s_val (Z.pv_assign rfl) ?_
              refine Z.j_nil ?_
              refine Z.j_then ?_
              refine Z.j_seq ?_
              refine Z.j_region ?_
              refine Z.s_val (Z.pv_loadA rfl (by repeat (first | with_reducible exact Z.Take.here | apply Z.Take.there)) Try.isAgg36 Try.sizeOf36 (by rfl)) ?_
              refine Z.s_callD rfl rfl rfl isFn11 (by repeat (first | with_reducible exact Z.Takes.nil | (apply Z.Takes.cons; (repeat (first | with_reducible exact Z.Take.here | apply Z.Take.there))))) (by repeat (first | exact Z.App.nil | apply Z.App.cons)) (put_spec _ _ ((r.drop (⟨cl, ck⟩ : Cell)).put (⟨cl, ck⟩ : Cell)) cl ck h20 h21) ?_
              refine Z.s_val (Z.pv_assign rfl) ?_
              refine Z.j_nil ?_
              refine Z.j_then ?_
              refine Z.j_seq ?_
              refine Z.j_seq ?_
              refine Z.j_cast (A := RowP b5 (((r.drop (⟨cl, ck⟩ : Cell)).put (⟨cl, ck⟩ : Cell)).put (⟨cl, ck⟩ : Cell))) (B := RowP b5 (again r (⟨cl, ck⟩ : Cell))) (by repeat (first | with_reducible exact Z.Take.here | apply Z.Take.there)) rfl ?_
              refine Z.j_region ?_
              refine Z.s_val (Z.pv_move rfl) ?_
              refine Z.s_val (Z.pv_lenO rfl (by repeat (first | with_reducible exact Z.Take.here | apply Z.Take.there)) Try.underlying30) ?_
              refine Z.s_val (Z.pv_move rfl) ?_
              refine Z.j_nil ?_
              refine Z.j_then ?_
              refine Z.j_block ?_
              refine Z.j_initF (E' := [(3, .pointer (some ⟨b3, 0, none⟩)), (5, .pointer (some ⟨b5, 0, none⟩)), (9, vy), (10, .int .i64 r.ver.length), (11, .int .i64 r.ev.length), (12, .bool (Z.mval (⟨cl, ck⟩ : Cell) false r.ev)), (14, .bool (Z.mget (⟨cl, ck⟩ : Cell) r.ver).isSome), (15, .int .i64 (r.last + 1)), (16, .int .i64 (r.last + 1 + 1)), (63, vx), (64, .int .i64 r.ver.length), (65, .int .i64 ((0) : Nat))]) (As := [RowP b5 (again r (⟨cl, ck⟩ : Cell)), Z.cl b3 36 [.int .i64 cl, .int .u32 ck], Z.Own 36 2 vx r.ver.length ((sortC r.ver).flatMap Cell.c), Z.Own 3 1 vy r.ver.length (i64s ((sortC r.ver).map (fV r.ver)))]) (Fr := Fr) (by repeat (first | exact trivial | refine ⟨rfl, ?_⟩)) (by repeat (first | with_reducible exact Z.Takes.nil | (apply Z.Takes.cons; (repeat (first | with_reducible exact Z.Take.here | apply Z.Take.there))))) (by repeat (first | with_reducible exact Z.Drop.nil | apply Z.Drop.cons)) ?_
              refine Z.j_loop (X := { x : (Nat) // (x) ≤ r.ver.length }) (fun (x : { x : (Nat) // (x) ≤ r.ver.length }) => [(3, .pointer (some ⟨b3, 0, none⟩)), (5, .pointer (some ⟨b5, 0, none⟩)), (9, vy), (10, .int .i64 r.ver.length), (11, .int .i64 r.ev.length), (12, .bool (Z.mval (⟨cl, ck⟩ : Cell) false r.ev)), (14, .bool (Z.mget (⟨cl, ck⟩ : Cell) r.ver).isSome), (15, .int .i64 (r.last + 1)), (16, .int .i64 (r.last + 1 + 1)), (63, vx), (64, .int .i64 r.ver.length), (65, .int .i64 ((x.1) : Nat))]) (fun x => (fun (x : { x : (Nat) // (x) ≤ r.ver.length }) => [RowP b5 (again r (⟨cl, ck⟩ : Cell)), Z.cl b3 36 [.int .i64 cl, .int .u32 ck], Z.Own 36 2 vx r.ver.length ((sortC r.ver).flatMap Cell.c), Z.Own 3 1 vy r.ver.length (i64s ((sortC r.ver).map (fV r.ver)))]) x ++ Fr) (fun (x : { x : (Nat) // (x) ≤ r.ver.length }) => r.ver.length - (x.1)) ⟨(0), by omega⟩ (fun x => ?_)
              obtain ⟨i, hinv⟩ := x
              have hinv' : i ≤ r.ver.length := hinv
              have hi := hinv'
              show Z.J _ _ _ ([(3, .pointer (some ⟨b3, 0, none⟩)), (5, .pointer (some ⟨b5, 0, none⟩)), (9, vy), (10, .int .i64 r.ver.length), (11, .int .i64 r.ev.length), (12, .bool (Z.mval (⟨cl, ck⟩ : Cell) false r.ev)), (14, .bool (Z.mget (⟨cl, ck⟩ : Cell) r.ver).isSome), (15, .int .i64 (r.last + 1)), (16, .int .i64 (r.last + 1 + 1)), (63, vx), (64, .int .i64 r.ver.length), (65, .int .i64 (i : Nat))]) ([RowP b5 (again r (⟨cl, ck⟩ : Cell)), Z.cl b3 36 [.int .i64 cl, .int .u32 ck], Z.Own 36 2 vx r.ver.length ((sortC r.ver).flatMap Cell.c), Z.Own 3 1 vy r.ver.length (i64s ((sortC r.ver).map (fV r.ver)))] ++ Fr) _
              refine Z.j_app (by repeat (first | exact Z.App.nil | apply Z.App.cons)) ?_
              refine Z.j_seq ?_
              refine Z.j_region ?_
              refine Z.s_val (Z.pv_lss rfl rfl) ?_
              refine Z.j_nil ?_
              refine Z.j_then ?_
              refine Z.j_seq ?_
              refine Z.j_cond rfl (fun hc66 => ?_) (fun hc66 => ?_)
              · try (with_reducible first | replace hc66 := of_decide_eq_true hc66 | replace hc66 := of_decide_eq_false hc66 | replace hc66 := Z.nd_true hc66 | replace hc66 := Z.nd_false hc66 | replace hc66 := Z.nn_true hc66 | replace hc66 := Z.nn_false hc66 | replace hc66 := Z.nb_true hc66 | replace hc66 := Z.nb_false hc66)
                first
                | (exfalso; first | (cases hc66; done) | omega)
                | skip
                  refine Z.j_skip ?_
                  refine Z.j_then ?_
                  refine Z.j_seq ?_
                  refine Z.j_block ?_
                  refine Z.j_seq ?_
                  have hle := (hok.le _ _ (sAt_get hok (i := i) (by omega))).2
                  have hmx : ∀ hx : ¬ (sAt r.ver i) = (⟨cl, ck⟩ : Cell), Z.mget (sAt r.ver i) (again r (⟨cl, ck⟩ : Cell)).ver = some (fV r.ver (sAt r.ver i)) := fun hx => (again_other hok hx).trans (sAt_get hok (by omega))
                  have hmv : ∀ hx : ¬ (sAt r.ver i) = (⟨cl, ck⟩ : Cell), Z.mval (sAt r.ver i) 0 (again r (⟨cl, ck⟩ : Cell)).ver = fV r.ver (sAt r.ver i) := fun hx => by simp [Z.mval, hmx hx]
                  refine Z.j_unown (T := 36) (k := 2) (v := vx) (by repeat (first | with_reducible exact Z.Take.here | apply Z.Take.there)) (fun e1 e2 e3 => by exfalso; omega) (fun nb cap1 sp e1 e2 e3 => ?_)
                  refine Z.j_unown (T := 3) (k := 1) (v := vy) (by repeat (first | with_reducible exact Z.Take.here | apply Z.Take.there)) (fun e1 e2 e3 => by exfalso; omega) (fun nb2 cap2 sp2 f1 f2 f3 => ?_)
                  refine Z.j_region ?_
                  refine Z.s_val (Z.pv_move rfl) ?_
                  refine Z.s_val (Z.pv_indexAddr (o' := i * 2) (b := nb) (o := 0) (len := r.ver.length) (cap := cap1) (by show some vx = _; rw [e1]) rfl Try.underlying30 Try.sizeOf36 (by omega) (by simp)) ?_
                  refine Z.s_val (Z.pv_loadA rfl (by repeat (first | with_reducible exact Z.Take.here | apply Z.Take.there)) Try.isAgg36 Try.sizeOf36 (slc_cell sp (by rw [sortC_len]; omega))) ?_
                  refine Z.s_alloc Try.zeroValue36 (fun b18 => ?_)
                  refine Z.s_val (Z.pv_assign rfl) ?_
                  refine Z.s_storeA rfl rfl Try.sizeOf36 rfl (by repeat (first | with_reducible exact Z.Upd.here | apply Z.Upd.there)) (by rfl) ?_
                  refine Z.j_nil ?_
                  refine Z.j_then ?_
                  refine Z.j_seq ?_
                  refine Z.j_region ?_
                  refine Z.s_val (Z.pv_loadA rfl (by repeat (first | with_reducible exact Z.Take.here | apply Z.Take.there)) Try.isAgg36 Try.sizeOf36 (by rfl)) ?_
                  refine Z.s_callD rfl rfl rfl isFn14 (by repeat (first | with_reducible exact Z.Takes.nil | (apply Z.Takes.cons; (repeat (first | with_reducible exact Z.Take.here | apply Z.Take.there))))) (by repeat (first | exact Z.App.nil | apply Z.App.cons)) (version_spec _ _ (again r (⟨cl, ck⟩ : Cell)) _ _) ?_
                  refine Z.s_val (Z.pv_move rfl) ?_
                  refine Z.s_val (Z.pv_extract rfl rfl) ?_
                  refine Z.s_val (Z.pv_extract rfl rfl) ?_
                  refine Z.s_val (Z.pv_assign rfl) ?_
                  refine Z.s_val (Z.pv_assign rfl) ?_
                  refine Z.j_nil ?_
                  refine Z.j_then ?_
                  refine Z.j_seq ?_
                  refine Z.j_region ?_
                  refine Z.s_val (Z.pv_move rfl) ?_
                  refine Z.s_val (Z.pv_move rfl) ?_
                  refine Z.s_val (Z.pv_indexAddr (o' := i) (b := nb2) (o := 0) (len := r.ver.length) (cap := cap2) (by show some vy = _; rw [f1]) rfl Try.underlying48 Try.sizeOf3 (by omega) (by simp)) ?_
                  refine Z.s_val (Z.pv_load1 rfl (by repeat (first | with_reducible exact Z.Take.here | apply Z.Take.there)) Try.isAgg3 (get_ver sp2 (by omega))) ?_
                  refine Z.s_val (Z.pv_move rfl) ?_
                  refine Z.s_val (Z.pv_geq rfl rfl) ?_
                  refine Z.s_val (Z.pv_move rfl) ?_
                  refine Z.s_is 81 rfl (show _ = Value.bool false from (congrArg Value.bool (decide_eq_false (by omega)))) ?_
                  refine Z.s_val (Z.pv_loadA rfl (by repeat (first | with_reducible exact Z.Take.here | apply Z.Take.there)) Try.isAgg36 Try.sizeOf36 (by rfl)) ?_
                  refine Z.s_val (Z.pv_loadA rfl (by repeat (first | with_reducible exact Z.Take.here | apply Z.Take.there)) Try.isAgg36 Try.sizeOf36 (by rfl)) ?_
                  refine Z.s_val (Z.pv_neA rfl rfl Try.eqGuardType36 Try.underlying36 Try.stoodInHeld36 (cells_eq _ _ ⟨_, _⟩) rfl) ?_
                  refine Z.s_val (Z.pv_move rfl) ?_
                  refine Z.s_split 85 rfl (fun hg85 => ?_) (fun hg85 => ?_)
                  · try (with_reducible first | replace hg85 := of_decide_eq_true hg85 | replace hg85 := of_decide_eq_false hg85 | replace hg85 := Z.nd_true hg85 | replace hg85 := Z.nd_false hg85 | replace hg85 := Z.nn_true hg85 | replace hg85 := Z.nn_false hg85 | replace hg85 := Z.nb_true hg85 | replace hg85 := Z.nb_false hg85)
                    first
                    | (exfalso; first | (cases hg85; done) | omega)
                    | skip
                      refine Z.s_val (Z.pv_move rfl) ?_
                      refine Z.s_val (Z.pv_not rfl) ?_
                      refine Z.s_val (Z.pv_move rfl) ?_
                      refine Z.s_is 88 rfl (show _ = Value.bool false from (congrArg (fun o => Value.bool (!Option.isSome o)) (hmx hg85))) ?_
                      refine Z.s_val (Z.pv_move rfl) ?_
                      refine Z.s_val (Z.pv_move rfl) ?_
                      refine Z.s_val (Z.pv_move rfl) ?_
                      refine Z.s_val (Z.pv_indexAddr (o' := i) (b := nb2) (o := 0) (len := r.ver.length) (cap := cap2) (by show some vy = _; rw [f1]) rfl Try.underlying48 Try.sizeOf3 (by omega) (by simp)) ?_
                      refine Z.s_val (Z.pv_load1 rfl (by repeat (first | with_reducible exact Z.Take.here | apply Z.Take.there)) Try.isAgg3 (get_ver sp2 (by omega))) ?_
                      refine Z.s_val (Z.pv_neq rfl rfl) ?_
                      refine Z.s_val (Z.pv_pick rfl rfl) ?_
                      refine Z.s_val (Z.pv_pick rfl rfl) ?_
                      refine Z.s_val (Z.pv_pick rfl rfl) ?_
                      refine Z.j_nil ?_
                      refine Z.j_then ?_
                      refine Z.j_cond rfl (fun hc97 => ?_) (fun hc97 => ?_)
                      · try (with_reducible first | replace hc97 := of_decide_eq_true hc97 | replace hc97 := of_decide_eq_false hc97 | replace hc97 := Z.nd_true hc97 | replace hc97 := Z.nd_false hc97 | replace hc97 := Z.nn_true hc97 | replace hc97 := Z.nn_false hc97 | replace hc97 := Z.nb_true hc97 | replace hc97 := Z.nb_false hc97)
                        first | (cases hc97; done) | exact absurd (hmv hg85) hc97 | (exfalso; simp at hc97; done)
                      · try (with_reducible first | replace hc97 := of_decide_eq_true hc97 | replace hc97 := of_decide_eq_false hc97 | replace hc97 := Z.nd_true hc97 | replace hc97 := Z.nd_false hc97 | replace hc97 := Z.nn_true hc97 | replace hc97 := Z.nn_false hc97 | replace hc97 := Z.nb_true hc97 | replace hc97 := Z.nb_false hc97)
                        first
                        | (exfalso; first | (cases hc97; done) | omega)
                        | skip
                          refine Z.j_skip ?_
                          refine Z.j_blk ?_
                          refine Z.j_then ?_
                          refine Z.j_region ?_
                          refine Z.s_val (Z.pv_add rfl rfl (by first | exact IntWalk.i64_in _ (by omega) | rfl)) ?_
                          refine Z.s_val (Z.pv_move rfl) ?_
                          refine Z.j_nil ?_
                          refine Z.j_then ?_
                          refine Z.j_own (T := 36) (k := 2) (m := r.ver.length) (cap := cap1) (c := (sortC r.ver).flatMap Cell.c) (sp := sp) (by repeat (first | with_reducible exact Z.Take.here | apply Z.Take.there)) e2 e3 ?_
                          rw [← e1]
                          refine Z.j_own (T := 3) (k := 1) (m := r.ver.length) (cap := cap2) (c := i64s ((sortC r.ver).map (fV r.ver))) (sp := sp2) (by repeat (first | with_reducible exact Z.Take.here | apply Z.Take.there)) f2 f3 ?_
                          rw [← f1]
                          (refine Z.j_nextG (X := { x : (Nat) // (x) ≤ r.ver.length }) (EE := (fun (x : { x : (Nat) // (x) ≤ r.ver.length }) => [(3, .pointer (some ⟨b3, 0, none⟩)), (5, .pointer (some ⟨b5, 0, none⟩)), (9, vy), (10, .int .i64 r.ver.length), (11, .int .i64 r.ev.length), (12, .bool (Z.mval (⟨cl, ck⟩ : Cell) false r.ev)), (14, .bool (Z.mget (⟨cl, ck⟩ : Cell) r.ver).isSome), (15, .int .i64 (r.last + 1)), (16, .int .i64 (r.last + 1 + 1)), (63, vx), (64, .int .i64 r.ver.length), (65, .int .i64 ((x.1) : Nat))])) (LL := (fun (x : { x : (Nat) // (x) ≤ r.ver.length }) => [RowP b5 (again r (⟨cl, ck⟩ : Cell)), Z.cl b3 36 [.int .i64 cl, .int .u32 ck], Z.Own 36 2 vx r.ver.length ((sortC r.ver).flatMap Cell.c), Z.Own 3 1 vy r.ver.length (i64s ((sortC r.ver).map (fV r.ver)))])) (μ := (fun (x : { x : (Nat) // (x) ≤ r.ver.length }) => r.ver.length - (x.1))) (x := ⟨(i), hinv⟩) ⟨(i + 1), by omega⟩ ?_ ?_ ?_; (show r.ver.length - (i + 1) < r.ver.length - i; omega); (exact (by repeat (first | exact trivial | refine ⟨rfl, ?_⟩))); (exact Z.st_td (by repeat (first | with_reducible exact Z.Takes.nil | (apply Z.Takes.cons; (repeat (first | with_reducible exact Z.Take.here | apply Z.Take.there))))) (by repeat (first | with_reducible exact Z.Drop.nil | apply Z.Drop.cons))))
                  · try (with_reducible first | replace hg85 := of_decide_eq_true hg85 | replace hg85 := of_decide_eq_false hg85 | replace hg85 := Z.nd_true hg85 | replace hg85 := Z.nd_false hg85 | replace hg85 := Z.nn_true hg85 | replace hg85 := Z.nn_false hg85 | replace hg85 := Z.nb_true hg85 | replace hg85 := Z.nb_false hg85)
                    first
                    | (exfalso; first | (cases hg85; done) | omega)
                    | skip
                      refine Z.s_skip ?_
                      refine Z.s_skip ?_
                      refine Z.s_skip ?_
                      refine Z.s_skip ?_
                      refine Z.s_skip ?_
                      refine Z.s_skip ?_
                      refine Z.s_skip ?_
                      refine Z.s_skip ?_
                      refine Z.s_skip ?_
                      refine Z.s_skip ?_
                      refine Z.s_val (Z.pv_pick rfl rfl) ?_
                      refine Z.s_val (Z.pv_pick rfl rfl) ?_
                      refine Z.j_nil ?_
                      refine Z.j_then ?_
                      refine Z.j_cond rfl (fun hc97 => ?_) (fun hc97 => ?_)
                      · try (with_reducible first | replace hc97 := of_decide_eq_true hc97 | replace hc97 := of_decide_eq_false hc97 | replace hc97 := Z.nd_true hc97 | replace hc97 := Z.nd_false hc97 | replace hc97 := Z.nn_true hc97 | replace hc97 := Z.nn_false hc97 | replace hc97 := Z.nb_true hc97 | replace hc97 := Z.nb_false hc97)
                        first | (cases hc97; done) | exact absurd (hmv hg85) hc97 | (exfalso; simp at hc97; done)
                      · try (with_reducible first | replace hc97 := of_decide_eq_true hc97 | replace hc97 := of_decide_eq_false hc97 | replace hc97 := Z.nd_true hc97 | replace hc97 := Z.nd_false hc97 | replace hc97 := Z.nn_true hc97 | replace hc97 := Z.nn_false hc97 | replace hc97 := Z.nb_true hc97 | replace hc97 := Z.nb_false hc97)
                        first
                        | (exfalso; first | (cases hc97; done) | omega)
                        | skip
                          refine Z.j_skip ?_
                          refine Z.j_blk ?_
                          refine Z.j_then ?_
                          refine Z.j_region ?_
                          refine Z.s_val (Z.pv_add rfl rfl (by first | exact IntWalk.i64_in _ (by omega) | rfl)) ?_
                          refine Z.s_val (Z.pv_move rfl) ?_
                          refine Z.j_nil ?_
                          refine Z.j_then ?_
                          refine Z.j_own (T := 36) (k := 2) (m := r.ver.length) (cap := cap1) (c := (sortC r.ver).flatMap Cell.c) (sp := sp) (by repeat (first | with_reducible exact Z.Take.here | apply Z.Take.there)) e2 e3 ?_
                          rw [← e1]
                          refine Z.j_own (T := 3) (k := 1) (m := r.ver.length) (cap := cap2) (c := i64s ((sortC r.ver).map (fV r.ver))) (sp := sp2) (by repeat (first | with_reducible exact Z.Take.here | apply Z.Take.there)) f2 f3 ?_
                          rw [← f1]
                          (refine Z.j_nextG (X := { x : (Nat) // (x) ≤ r.ver.length }) (EE := (fun (x : { x : (Nat) // (x) ≤ r.ver.length }) => [(3, .pointer (some ⟨b3, 0, none⟩)), (5, .pointer (some ⟨b5, 0, none⟩)), (9, vy), (10, .int .i64 r.ver.length), (11, .int .i64 r.ev.length), (12, .bool (Z.mval (⟨cl, ck⟩ : Cell) false r.ev)), (14, .bool (Z.mget (⟨cl, ck⟩ : Cell) r.ver).isSome), (15, .int .i64 (r.last + 1)), (16, .int .i64 (r.last + 1 + 1)), (63, vx), (64, .int .i64 r.ver.length), (65, .int .i64 ((x.1) : Nat))])) (LL := (fun (x : { x : (Nat) // (x) ≤ r.ver.length }) => [RowP b5 (again r (⟨cl, ck⟩ : Cell)), Z.cl b3 36 [.int .i64 cl, .int .u32 ck], Z.Own 36 2 vx r.ver.length ((sortC r.ver).flatMap Cell.c), Z.Own 3 1 vy r.ver.length (i64s ((sortC r.ver).map (fV r.ver)))])) (μ := (fun (x : { x : (Nat) // (x) ≤ r.ver.length }) => r.ver.length - (x.1))) (x := ⟨(i), hinv⟩) ⟨(i + 1), by omega⟩ ?_ ?_ ?_; (show r.ver.length - (i + 1) < r.ver.length - i; omega); (exact (by repeat (first | exact trivial | refine ⟨rfl, ?_⟩))); (exact Z.st_td (by repeat (first | with_reducible exact Z.Takes.nil | (apply Z.Takes.cons; (repeat (first | with_reducible exact Z.Take.here | apply Z.Take.there))))) (by repeat (first | with_reducible exact Z.Drop.nil | apply Z.Drop.cons))))
              · try (with_reducible first | replace hc66 := of_decide_eq_true hc66 | replace hc66 := of_decide_eq_false hc66 | replace hc66 := Z.nd_true hc66 | replace hc66 := Z.nd_false hc66 | replace hc66 := Z.nn_true hc66 | replace hc66 := Z.nn_false hc66 | replace hc66 := Z.nb_true hc66 | replace hc66 := Z.nb_false hc66)
                first
                | (exfalso; first | (cases hc66; done) | omega)
                | skip
                  refine Z.j_exit ?_
                  refine Z.j_then_exit ?_
                  refine Z.j_then_exit ?_
                  refine Z.j_blk_here rfl ?_
                  refine Z.j_then ?_
                  refine Z.j_seq ?_
                  refine Z.j_seq ?_
                  refine Z.j_region ?_
                  refine Z.s_val (Z.pv_move rfl) ?_
                  refine Z.s_val (Z.pv_not rfl) ?_
                  refine Z.j_nil ?_
                  refine Z.j_then ?_
                  refine Z.j_cond rfl (fun hc100 => ?_) (fun hc100 => ?_)
                  · try (with_reducible first | replace hc100 := of_decide_eq_true hc100 | replace hc100 := of_decide_eq_false hc100 | replace hc100 := Z.nd_true hc100 | replace hc100 := Z.nd_false hc100 | replace hc100 := Z.nn_true hc100 | replace hc100 := Z.nn_false hc100 | replace hc100 := Z.nb_true hc100 | replace hc100 := Z.nb_false hc100)
                    first
                    | (exfalso; first | (cases hc100; done) | omega)
                    | skip
                      have hlv : ((again r (⟨cl, ck⟩ : Cell)).ver.length : Int) = r.ver.length + 1 := by rw [again_live hok, if_neg (by intro h; rw [h] at hc100; cases hc100)]
                      refine Z.j_region ?_
                      refine Z.s_val (Z.pv_move rfl) ?_
                      refine Z.s_val (Z.pv_add rfl rfl (by first | exact IntWalk.i64_in _ (by omega) | rfl)) ?_
                      refine Z.s_val (Z.pv_assign rfl) ?_
                      refine Z.j_nil ?_
                      refine Z.j_then ?_
                      refine Z.j_seq ?_
                      refine Z.j_seq ?_
                      refine Z.j_region ?_
                      refine Z.s_val (Z.pv_move rfl) ?_
                      refine Z.s_val (Z.pv_not rfl) ?_
                      refine Z.j_nil ?_
                      refine Z.j_then ?_
                      refine Z.j_cond rfl (fun hc104 => ?_) (fun hc104 => ?_)
                      · try (with_reducible first | replace hc104 := of_decide_eq_true hc104 | replace hc104 := of_decide_eq_false hc104 | replace hc104 := Z.nd_true hc104 | replace hc104 := Z.nd_false hc104 | replace hc104 := Z.nn_true hc104 | replace hc104 := Z.nn_false hc104 | replace hc104 := Z.nb_true hc104 | replace hc104 := Z.nb_false hc104)
                        first
                        | (exfalso; first | (cases hc104; done) | omega)
                        | skip
                          have hev : ((again r (⟨cl, ck⟩ : Cell)).ev.length : Int) = r.ev.length + 1 := by rw [again_ever hT, if_neg (by intro h; rw [h] at hc104; cases hc104)]
                          refine Z.j_region ?_
                          refine Z.s_val (Z.pv_move rfl) ?_
                          refine Z.s_val (Z.pv_add rfl rfl (by first | exact IntWalk.i64_in _ (by omega) | rfl)) ?_
                          refine Z.s_val (Z.pv_assign rfl) ?_
                          refine Z.j_nil ?_
                          refine Z.j_then ?_
                          refine Z.j_seq ?_
                          have hgc : Z.mget (⟨cl, ck⟩ : Cell) (again r (⟨cl, ck⟩ : Cell)).ver = some (r.last + 1 + 1) := again_self
                          have hmc : Z.mval (⟨cl, ck⟩ : Cell) 0 (again r (⟨cl, ck⟩ : Cell)).ver = r.last + 1 + 1 := by simp [Z.mval, hgc]
                          refine Z.j_region ?_
                          refine Z.s_val (Z.pv_loadA rfl (by repeat (first | with_reducible exact Z.Take.here | apply Z.Take.there)) Try.isAgg36 Try.sizeOf36 (by rfl)) ?_
                          refine Z.s_callD rfl rfl rfl isFn14 (by repeat (first | with_reducible exact Z.Takes.nil | (apply Z.Takes.cons; (repeat (first | with_reducible exact Z.Take.here | apply Z.Take.there))))) (by repeat (first | exact Z.App.nil | apply Z.App.cons)) (version_spec _ _ (again r (⟨cl, ck⟩ : Cell)) _ _) ?_
                          refine Z.s_val (Z.pv_move rfl) ?_
                          refine Z.s_val (Z.pv_extract rfl rfl) ?_
                          refine Z.s_val (Z.pv_extract rfl rfl) ?_
                          refine Z.s_val (Z.pv_assign rfl) ?_
                          refine Z.s_val (Z.pv_assign rfl) ?_
                          refine Z.j_nil ?_
                          refine Z.j_then ?_
                          refine Z.j_seq ?_
                          refine Z.j_region ?_
                          refine Z.s_val (Z.pv_move rfl) ?_
                          refine Z.s_val (Z.pv_move rfl) ?_
                          refine Z.s_val (Z.pv_add rfl rfl (by first | exact IntWalk.i64_in _ (by omega) | rfl)) ?_
                          refine Z.s_val (Z.pv_eql rfl rfl) ?_
                          refine Z.s_val (Z.pv_move rfl) ?_
                          refine Z.s_is 116 rfl (show _ = Value.bool true from (congrArg Value.bool (decide_eq_true rfl))) ?_
                          refine Z.s_val (Z.pv_move rfl) ?_
                          refine Z.s_val (Z.pv_move rfl) ?_
                          refine Z.s_val (Z.pv_eql rfl rfl) ?_
                          refine Z.s_val (Z.pv_pick rfl rfl) ?_
                          refine Z.s_val (Z.pv_move rfl) ?_
                          refine Z.s_is 121 rfl (show _ = Value.bool true from (congrArg Value.bool (decide_eq_true hmc))) ?_
                          refine Z.s_val (Z.pv_move rfl) ?_
                          refine Z.s_val (Z.pv_pick rfl rfl) ?_
                          refine Z.s_val (Z.pv_move rfl) ?_
                          refine Z.s_is 124 rfl (show _ = Value.bool true from (congrArg (fun o => Value.bool (Option.isSome o)) hgc)) ?_
                          refine Z.s_callD rfl rfl rfl isFn20 (by repeat (first | with_reducible exact Z.Takes.nil | (apply Z.Takes.cons; (repeat (first | with_reducible exact Z.Take.here | apply Z.Take.there))))) (by repeat (first | exact Z.App.nil | apply Z.App.cons)) (live_spec _ _ (again r (⟨cl, ck⟩ : Cell))) ?_
                          refine Z.s_val (Z.pv_move rfl) ?_
                          refine Z.s_val (Z.pv_eql rfl rfl) ?_
                          refine Z.s_val (Z.pv_pick rfl rfl) ?_
                          refine Z.s_val (Z.pv_move rfl) ?_
                          refine Z.s_is 129 rfl (show _ = Value.bool true from (congrArg Value.bool (decide_eq_true hlv))) ?_
                          refine Z.s_callD rfl rfl rfl isFn17 (by repeat (first | with_reducible exact Z.Takes.nil | (apply Z.Takes.cons; (repeat (first | with_reducible exact Z.Take.here | apply Z.Take.there))))) (by repeat (first | exact Z.App.nil | apply Z.App.cons)) (ever_spec _ _ (again r (⟨cl, ck⟩ : Cell))) ?_
                          refine Z.s_val (Z.pv_move rfl) ?_
                          refine Z.s_val (Z.pv_eql rfl rfl) ?_
                          refine Z.s_val (Z.pv_pick rfl rfl) ?_
                          refine Z.s_val (Z.pv_move rfl) ?_
                          refine Z.s_is 134 rfl (show _ = Value.bool true from (congrArg Value.bool (decide_eq_true hev))) ?_
                          refine Z.s_val (Z.pv_loadA rfl (by repeat (first | with_reducible exact Z.Take.here | apply Z.Take.there)) Try.isAgg36 Try.sizeOf36 (by rfl)) ?_
                          refine Z.s_callD rfl rfl rfl isFn15 (by repeat (first | with_reducible exact Z.Takes.nil | (apply Z.Takes.cons; (repeat (first | with_reducible exact Z.Take.here | apply Z.Take.there))))) (by repeat (first | exact Z.App.nil | apply Z.App.cons)) (seen_spec _ _ (again r (⟨cl, ck⟩ : Cell)) _ _) ?_
                          refine Z.s_val (Z.pv_pick rfl rfl) ?_
                          refine Z.s_val (Z.pv_assign rfl) ?_
                          refine Z.j_nil ?_
                          refine Z.j_then ?_
                          refine Z.j_ret ?_
                          refine Z.j_doneM_ret (bs := []) .nil (Z.rv1 (Z.rv_tmp (t := 4) rfl)) ?_
                          first | exact Z.post_of ⟨rfl, rfl⟩ (by repeat (first | with_reducible exact Z.Takes.nil | (apply Z.Takes.cons; (repeat (first | with_reducible exact Z.Take.here | apply Z.Take.there))))) (by repeat (first | with_reducible exact Z.Drop.nil | apply Z.Drop.cons)) | exact Z.post_of ⟨congrArg Value.bool again_seen, rfl⟩ (by repeat (first | with_reducible exact Z.Takes.nil | (apply Z.Takes.cons; (repeat (first | with_reducible exact Z.Take.here | apply Z.Take.there))))) (by repeat (first | with_reducible exact Z.Drop.nil | apply Z.Drop.cons))
                      · try (with_reducible first | replace hc104 := of_decide_eq_true hc104 | replace hc104 := of_decide_eq_false hc104 | replace hc104 := Z.nd_true hc104 | replace hc104 := Z.nd_false hc104 | replace hc104 := Z.nn_true hc104 | replace hc104 := Z.nn_false hc104 | replace hc104 := Z.nb_true hc104 | replace hc104 := Z.nb_false hc104)
                        first
                        | (exfalso; first | (cases hc104; done) | omega)
                        | skip
                          have hev : ((again r (⟨cl, ck⟩ : Cell)).ev.length : Int) = r.ev.length := by rw [again_ever hT, if_pos (by cases h : Z.mval (⟨cl, ck⟩ : Cell) false r.ev with | true => rfl | false => (rw [h] at hc104; first | exact absurd rfl hc104 | cases hc104))]
                          refine Z.j_skip ?_
                          refine Z.j_then ?_
                          refine Z.j_seq ?_
                          have hgc : Z.mget (⟨cl, ck⟩ : Cell) (again r (⟨cl, ck⟩ : Cell)).ver = some (r.last + 1 + 1) := again_self
                          have hmc : Z.mval (⟨cl, ck⟩ : Cell) 0 (again r (⟨cl, ck⟩ : Cell)).ver = r.last + 1 + 1 := by simp [Z.mval, hgc]
                          refine Z.j_region ?_
                          refine Z.s_val (Z.pv_loadA rfl (by repeat (first | with_reducible exact Z.Take.here | apply Z.Take.there)) Try.isAgg36 Try.sizeOf36 (by rfl)) ?_
                          refine Z.s_callD rfl rfl rfl isFn14 (by repeat (first | with_reducible exact Z.Takes.nil | (apply Z.Takes.cons; (repeat (first | with_reducible exact Z.Take.here | apply Z.Take.there))))) (by repeat (first | exact Z.App.nil | apply Z.App.cons)) (version_spec _ _ (again r (⟨cl, ck⟩ : Cell)) _ _) ?_
                          refine Z.s_val (Z.pv_move rfl) ?_
                          refine Z.s_val (Z.pv_extract rfl rfl) ?_
                          refine Z.s_val (Z.pv_extract rfl rfl) ?_
                          refine Z.s_val (Z.pv_assign rfl) ?_
                          refine Z.s_val (Z.pv_assign rfl) ?_
                          refine Z.j_nil ?_
                          refine Z.j_then ?_
                          refine Z.j_seq ?_
                          refine Z.j_region ?_
                          refine Z.s_val (Z.pv_move rfl) ?_
                          refine Z.s_val (Z.pv_move rfl) ?_
                          refine Z.s_val (Z.pv_add rfl rfl (by first | exact IntWalk.i64_in _ (by omega) | rfl)) ?_
                          refine Z.s_val (Z.pv_eql rfl rfl) ?_
                          refine Z.s_val (Z.pv_move rfl) ?_
                          refine Z.s_is 116 rfl (show _ = Value.bool true from (congrArg Value.bool (decide_eq_true rfl))) ?_
                          refine Z.s_val (Z.pv_move rfl) ?_
                          refine Z.s_val (Z.pv_move rfl) ?_
                          refine Z.s_val (Z.pv_eql rfl rfl) ?_
                          refine Z.s_val (Z.pv_pick rfl rfl) ?_
                          refine Z.s_val (Z.pv_move rfl) ?_
                          refine Z.s_is 121 rfl (show _ = Value.bool true from (congrArg Value.bool (decide_eq_true hmc))) ?_
                          refine Z.s_val (Z.pv_move rfl) ?_
                          refine Z.s_val (Z.pv_pick rfl rfl) ?_
                          refine Z.s_val (Z.pv_move rfl) ?_
                          refine Z.s_is 124 rfl (show _ = Value.bool true from (congrArg (fun o => Value.bool (Option.isSome o)) hgc)) ?_
                          refine Z.s_callD rfl rfl rfl isFn20 (by repeat (first | with_reducible exact Z.Takes.nil | (apply Z.Takes.cons; (repeat (first | with_reducible exact Z.Take.here | apply Z.Take.there))))) (by repeat (first | exact Z.App.nil | apply Z.App.cons)) (live_spec _ _ (again r (⟨cl, ck⟩ : Cell))) ?_
                          refine Z.s_val (Z.pv_move rfl) ?_
                          refine Z.s_val (Z.pv_eql rfl rfl) ?_
                          refine Z.s_val (Z.pv_pick rfl rfl) ?_
                          refine Z.s_val (Z.pv_move rfl) ?_
                          refine Z.s_is 129 rfl (show _ = Value.bool true from (congrArg Value.bool (decide_eq_true hlv))) ?_
                          refine Z.s_callD rfl rfl rfl isFn17 (by repeat (first | with_reducible exact Z.Takes.nil | (apply Z.Takes.cons; (repeat (first | with_reducible exact Z.Take.here | apply Z.Take.there))))) (by repeat (first | exact Z.App.nil | apply Z.App.cons)) (ever_spec _ _ (again r (⟨cl, ck⟩ : Cell))) ?_
                          refine Z.s_val (Z.pv_move rfl) ?_
                          refine Z.s_val (Z.pv_eql rfl rfl) ?_
                          refine Z.s_val (Z.pv_pick rfl rfl) ?_
                          refine Z.s_val (Z.pv_move rfl) ?_
                          refine Z.s_is 134 rfl (show _ = Value.bool true from (congrArg Value.bool (decide_eq_true hev))) ?_
                          refine Z.s_val (Z.pv_loadA rfl (by repeat (first | with_reducible exact Z.Take.here | apply Z.Take.there)) Try.isAgg36 Try.sizeOf36 (by rfl)) ?_
                          refine Z.s_callD rfl rfl rfl isFn15 (by repeat (first | with_reducible exact Z.Takes.nil | (apply Z.Takes.cons; (repeat (first | with_reducible exact Z.Take.here | apply Z.Take.there))))) (by repeat (first | exact Z.App.nil | apply Z.App.cons)) (seen_spec _ _ (again r (⟨cl, ck⟩ : Cell)) _ _) ?_
                          refine Z.s_val (Z.pv_pick rfl rfl) ?_
                          refine Z.s_val (Z.pv_assign rfl) ?_
                          refine Z.j_nil ?_
                          refine Z.j_then ?_
                          refine Z.j_ret ?_
                          refine Z.j_doneM_ret (bs := []) .nil (Z.rv1 (Z.rv_tmp (t := 4) rfl)) ?_
                          first | exact Z.post_of ⟨rfl, rfl⟩ (by repeat (first | with_reducible exact Z.Takes.nil | (apply Z.Takes.cons; (repeat (first | with_reducible exact Z.Take.here | apply Z.Take.there))))) (by repeat (first | with_reducible exact Z.Drop.nil | apply Z.Drop.cons)) | exact Z.post_of ⟨congrArg Value.bool again_seen, rfl⟩ (by repeat (first | with_reducible exact Z.Takes.nil | (apply Z.Takes.cons; (repeat (first | with_reducible exact Z.Take.here | apply Z.Take.there))))) (by repeat (first | with_reducible exact Z.Drop.nil | apply Z.Drop.cons))
                  · try (with_reducible first | replace hc100 := of_decide_eq_true hc100 | replace hc100 := of_decide_eq_false hc100 | replace hc100 := Z.nd_true hc100 | replace hc100 := Z.nd_false hc100 | replace hc100 := Z.nn_true hc100 | replace hc100 := Z.nn_false hc100 | replace hc100 := Z.nb_true hc100 | replace hc100 := Z.nb_false hc100)
                    first
                    | (exfalso; first | (cases hc100; done) | omega)
                    | skip
                      have hlv : ((again r (⟨cl, ck⟩ : Cell)).ver.length : Int) = r.ver.length := by rw [again_live hok, if_pos (by cases h : (Z.mget (⟨cl, ck⟩ : Cell) r.ver).isSome with | true => rfl | false => (rw [h] at hc100; first | exact absurd rfl hc100 | cases hc100))]
                      refine Z.j_skip ?_
                      refine Z.j_then ?_
                      refine Z.j_seq ?_
                      refine Z.j_seq ?_
                      refine Z.j_region ?_
                      refine Z.s_val (Z.pv_move rfl) ?_
                      refine Z.s_val (Z.pv_not rfl) ?_
                      refine Z.j_nil ?_
                      refine Z.j_then ?_
                      refine Z.j_cond rfl (fun hc104 => ?_) (fun hc104 => ?_)
                      · try (with_reducible first | replace hc104 := of_decide_eq_true hc104 | replace hc104 := of_decide_eq_false hc104 | replace hc104 := Z.nd_true hc104 | replace hc104 := Z.nd_false hc104 | replace hc104 := Z.nn_true hc104 | replace hc104 := Z.nn_false hc104 | replace hc104 := Z.nb_true hc104 | replace hc104 := Z.nb_false hc104)
                        first
                        | (exfalso; first | (cases hc104; done) | omega)
                        | skip
                          have hev : ((again r (⟨cl, ck⟩ : Cell)).ev.length : Int) = r.ev.length + 1 := by rw [again_ever hT, if_neg (by intro h; rw [h] at hc104; cases hc104)]
                          refine Z.j_region ?_
                          refine Z.s_val (Z.pv_move rfl) ?_
                          refine Z.s_val (Z.pv_add rfl rfl (by first | exact IntWalk.i64_in _ (by omega) | rfl)) ?_
                          refine Z.s_val (Z.pv_assign rfl) ?_
                          refine Z.j_nil ?_
                          refine Z.j_then ?_
                          refine Z.j_seq ?_
                          have hgc : Z.mget (⟨cl, ck⟩ : Cell) (again r (⟨cl, ck⟩ : Cell)).ver = some (r.last + 1 + 1) := again_self
                          have hmc : Z.mval (⟨cl, ck⟩ : Cell) 0 (again r (⟨cl, ck⟩ : Cell)).ver = r.last + 1 + 1 := by simp [Z.mval, hgc]
                          refine Z.j_region ?_
                          refine Z.s_val (Z.pv_loadA rfl (by repeat (first | with_reducible exact Z.Take.here | apply Z.Take.there)) Try.isAgg36 Try.sizeOf36 (by rfl)) ?_
                          refine Z.s_callD rfl rfl rfl isFn14 (by repeat (first | with_reducible exact Z.Takes.nil | (apply Z.Takes.cons; (repeat (first | with_reducible exact Z.Take.here | apply Z.Take.there))))) (by repeat (first | exact Z.App.nil | apply Z.App.cons)) (version_spec _ _ (again r (⟨cl, ck⟩ : Cell)) _ _) ?_
                          refine Z.s_val (Z.pv_move rfl) ?_
                          refine Z.s_val (Z.pv_extract rfl rfl) ?_
                          refine Z.s_val (Z.pv_extract rfl rfl) ?_
                          refine Z.s_val (Z.pv_assign rfl) ?_
                          refine Z.s_val (Z.pv_assign rfl) ?_
                          refine Z.j_nil ?_
                          refine Z.j_then ?_
                          refine Z.j_seq ?_
                          refine Z.j_region ?_
                          refine Z.s_val (Z.pv_move rfl) ?_
                          refine Z.s_val (Z.pv_move rfl) ?_
                          refine Z.s_val (Z.pv_add rfl rfl (by first | exact IntWalk.i64_in _ (by omega) | rfl)) ?_
                          refine Z.s_val (Z.pv_eql rfl rfl) ?_
                          refine Z.s_val (Z.pv_move rfl) ?_
                          refine Z.s_is 116 rfl (show _ = Value.bool true from (congrArg Value.bool (decide_eq_true rfl))) ?_
                          refine Z.s_val (Z.pv_move rfl) ?_
                          refine Z.s_val (Z.pv_move rfl) ?_
                          refine Z.s_val (Z.pv_eql rfl rfl) ?_
                          refine Z.s_val (Z.pv_pick rfl rfl) ?_
                          refine Z.s_val (Z.pv_move rfl) ?_
                          refine Z.s_is 121 rfl (show _ = Value.bool true from (congrArg Value.bool (decide_eq_true hmc))) ?_
                          refine Z.s_val (Z.pv_move rfl) ?_
                          refine Z.s_val (Z.pv_pick rfl rfl) ?_
                          refine Z.s_val (Z.pv_move rfl) ?_
                          refine Z.s_is 124 rfl (show _ = Value.bool true from (congrArg (fun o => Value.bool (Option.isSome o)) hgc)) ?_
                          refine Z.s_callD rfl rfl rfl isFn20 (by repeat (first | with_reducible exact Z.Takes.nil | (apply Z.Takes.cons; (repeat (first | with_reducible exact Z.Take.here | apply Z.Take.there))))) (by repeat (first | exact Z.App.nil | apply Z.App.cons)) (live_spec _ _ (again r (⟨cl, ck⟩ : Cell))) ?_
                          refine Z.s_val (Z.pv_move rfl) ?_
                          refine Z.s_val (Z.pv_eql rfl rfl) ?_
                          refine Z.s_val (Z.pv_pick rfl rfl) ?_
                          refine Z.s_val (Z.pv_move rfl) ?_
                          refine Z.s_is 129 rfl (show _ = Value.bool true from (congrArg Value.bool (decide_eq_true hlv))) ?_
                          refine Z.s_callD rfl rfl rfl isFn17 (by repeat (first | with_reducible exact Z.Takes.nil | (apply Z.Takes.cons; (repeat (first | with_reducible exact Z.Take.here | apply Z.Take.there))))) (by repeat (first | exact Z.App.nil | apply Z.App.cons)) (ever_spec _ _ (again r (⟨cl, ck⟩ : Cell))) ?_
                          refine Z.s_val (Z.pv_move rfl) ?_
                          refine Z.s_val (Z.pv_eql rfl rfl) ?_
                          refine Z.s_val (Z.pv_pick rfl rfl) ?_
                          refine Z.s_val (Z.pv_move rfl) ?_
                          refine Z.s_is 134 rfl (show _ = Value.bool true from (congrArg Value.bool (decide_eq_true hev))) ?_
                          refine Z.s_val (Z.pv_loadA rfl (by repeat (first | with_reducible exact Z.Take.here | apply Z.Take.there)) Try.isAgg36 Try.sizeOf36 (by rfl)) ?_
                          refine Z.s_callD rfl rfl rfl isFn15 (by repeat (first | with_reducible exact Z.Takes.nil | (apply Z.Takes.cons; (repeat (first | with_reducible exact Z.Take.here | apply Z.Take.there))))) (by repeat (first | exact Z.App.nil | apply Z.App.cons)) (seen_spec _ _ (again r (⟨cl, ck⟩ : Cell)) _ _) ?_
                          refine Z.s_val (Z.pv_pick rfl rfl) ?_
                          refine Z.s_val (Z.pv_assign rfl) ?_
                          refine Z.j_nil ?_
                          refine Z.j_then ?_
                          refine Z.j_ret ?_
                          refine Z.j_doneM_ret (bs := []) .nil (Z.rv1 (Z.rv_tmp (t := 4) rfl)) ?_
                          first | exact Z.post_of ⟨rfl, rfl⟩ (by repeat (first | with_reducible exact Z.Takes.nil | (apply Z.Takes.cons; (repeat (first | with_reducible exact Z.Take.here | apply Z.Take.there))))) (by repeat (first | with_reducible exact Z.Drop.nil | apply Z.Drop.cons)) | exact Z.post_of ⟨congrArg Value.bool again_seen, rfl⟩ (by repeat (first | with_reducible exact Z.Takes.nil | (apply Z.Takes.cons; (repeat (first | with_reducible exact Z.Take.here | apply Z.Take.there))))) (by repeat (first | with_reducible exact Z.Drop.nil | apply Z.Drop.cons))
                      · try (with_reducible first | replace hc104 := of_decide_eq_true hc104 | replace hc104 := of_decide_eq_false hc104 | replace hc104 := Z.nd_true hc104 | replace hc104 := Z.nd_false hc104 | replace hc104 := Z.nn_true hc104 | replace hc104 := Z.nn_false hc104 | replace hc104 := Z.nb_true hc104 | replace hc104 := Z.nb_false hc104)
                        first
                        | (exfalso; first | (cases hc104; done) | omega)
                        | skip
                          have hev : ((again r (⟨cl, ck⟩ : Cell)).ev.length : Int) = r.ev.length := by rw [again_ever hT, if_pos (by cases h : Z.mval (⟨cl, ck⟩ : Cell) false r.ev with | true => rfl | false => (rw [h] at hc104; first | exact absurd rfl hc104 | cases hc104))]
                          refine Z.j_skip ?_
                          refine Z.j_then ?_
                          refine Z.j_seq ?_
                          have hgc : Z.mget (⟨cl, ck⟩ : Cell) (again r (⟨cl, ck⟩ : Cell)).ver = some (r.last + 1 + 1) := again_self
                          have hmc : Z.mval (⟨cl, ck⟩ : Cell) 0 (again r (⟨cl, ck⟩ : Cell)).ver = r.last + 1 + 1 := by simp [Z.mval, hgc]
                          refine Z.j_region ?_
                          refine Z.s_val (Z.pv_loadA rfl (by repeat (first | with_reducible exact Z.Take.here | apply Z.Take.there)) Try.isAgg36 Try.sizeOf36 (by rfl)) ?_
                          refine Z.s_callD rfl rfl rfl isFn14 (by repeat (first | with_reducible exact Z.Takes.nil | (apply Z.Takes.cons; (repeat (first | with_reducible exact Z.Take.here | apply Z.Take.there))))) (by repeat (first | exact Z.App.nil | apply Z.App.cons)) (version_spec _ _ (again r (⟨cl, ck⟩ : Cell)) _ _) ?_
                          refine Z.s_val (Z.pv_move rfl) ?_
                          refine Z.s_val (Z.pv_extract rfl rfl) ?_
                          refine Z.s_val (Z.pv_extract rfl rfl) ?_
                          refine Z.s_val (Z.pv_assign rfl) ?_
                          refine Z.s_val (Z.pv_assign rfl) ?_
                          refine Z.j_nil ?_
                          refine Z.j_then ?_
                          refine Z.j_seq ?_
                          refine Z.j_region ?_
                          refine Z.s_val (Z.pv_move rfl) ?_
                          refine Z.s_val (Z.pv_move rfl) ?_
                          refine Z.s_val (Z.pv_add rfl rfl (by first | exact IntWalk.i64_in _ (by omega) | rfl)) ?_
                          refine Z.s_val (Z.pv_eql rfl rfl) ?_
                          refine Z.s_val (Z.pv_move rfl) ?_
                          refine Z.s_is 116 rfl (show _ = Value.bool true from (congrArg Value.bool (decide_eq_true rfl))) ?_
                          refine Z.s_val (Z.pv_move rfl) ?_
                          refine Z.s_val (Z.pv_move rfl) ?_
                          refine Z.s_val (Z.pv_eql rfl rfl) ?_
                          refine Z.s_val (Z.pv_pick rfl rfl) ?_
                          refine Z.s_val (Z.pv_move rfl) ?_
                          refine Z.s_is 121 rfl (show _ = Value.bool true from (congrArg Value.bool (decide_eq_true hmc))) ?_
                          refine Z.s_val (Z.pv_move rfl) ?_
                          refine Z.s_val (Z.pv_pick rfl rfl) ?_
                          refine Z.s_val (Z.pv_move rfl) ?_
                          refine Z.s_is 124 rfl (show _ = Value.bool true from (congrArg (fun o => Value.bool (Option.isSome o)) hgc)) ?_
                          refine Z.s_callD rfl rfl rfl isFn20 (by repeat (first | with_reducible exact Z.Takes.nil | (apply Z.Takes.cons; (repeat (first | with_reducible exact Z.Take.here | apply Z.Take.there))))) (by repeat (first | exact Z.App.nil | apply Z.App.cons)) (live_spec _ _ (again r (⟨cl, ck⟩ : Cell))) ?_
                          refine Z.s_val (Z.pv_move rfl) ?_
                          refine Z.s_val (Z.pv_eql rfl rfl) ?_
                          refine Z.s_val (Z.pv_pick rfl rfl) ?_
                          refine Z.s_val (Z.pv_move rfl) ?_
                          refine Z.s_is 129 rfl (show _ = Value.bool true from (congrArg Value.bool (decide_eq_true hlv))) ?_
                          refine Z.s_callD rfl rfl rfl isFn17 (by repeat (first | with_reducible exact Z.Takes.nil | (apply Z.Takes.cons; (repeat (first | with_reducible exact Z.Take.here | apply Z.Take.there))))) (by repeat (first | exact Z.App.nil | apply Z.App.cons)) (ever_spec _ _ (again r (⟨cl, ck⟩ : Cell))) ?_
                          refine Z.s_val (Z.pv_move rfl) ?_
                          refine Z.s_val (Z.pv_eql rfl rfl) ?_
                          refine Z.s_val (Z.pv_pick rfl rfl) ?_
                          refine Z.s_val (Z.pv_move rfl) ?_
                          refine Z.s_is 134 rfl (show _ = Value.bool true from (congrArg Value.bool (decide_eq_true hev))) ?_
                          refine Z.s_val (Z.pv_loadA rfl (by repeat (first | with_reducible exact Z.Take.here | apply Z.Take.there)) Try.isAgg36 Try.sizeOf36 (by rfl)) ?_
                          refine Z.s_callD rfl rfl rfl isFn15 (by repeat (first | with_reducible exact Z.Takes.nil | (apply Z.Takes.cons; (repeat (first | with_reducible exact Z.Take.here | apply Z.Take.there))))) (by repeat (first | exact Z.App.nil | apply Z.App.cons)) (seen_spec _ _ (again r (⟨cl, ck⟩ : Cell)) _ _) ?_
                          refine Z.s_val (Z.pv_pick rfl rfl) ?_
                          refine Z.s_val (Z.pv_assign rfl) ?_
                          refine Z.j_nil ?_
                          refine Z.j_then ?_
                          refine Z.j_ret ?_
                          refine Z.j_doneM_ret (bs := []) .nil (Z.rv1 (Z.rv_tmp (t := 4) rfl)) ?_
                          first | exact Z.post_of ⟨rfl, rfl⟩ (by repeat (first | with_reducible exact Z.Takes.nil | (apply Z.Takes.cons; (repeat (first | with_reducible exact Z.Take.here | apply Z.Take.there))))) (by repeat (first | with_reducible exact Z.Drop.nil | apply Z.Drop.cons)) | exact Z.post_of ⟨congrArg Value.bool again_seen, rfl⟩ (by repeat (first | with_reducible exact Z.Takes.nil | (apply Z.Takes.cons; (repeat (first | with_reducible exact Z.Take.here | apply Z.Take.there))))) (by repeat (first | with_reducible exact Z.Drop.nil | apply Z.Drop.cons))

end Go.Proofs.Ytleofndjeekalaa
