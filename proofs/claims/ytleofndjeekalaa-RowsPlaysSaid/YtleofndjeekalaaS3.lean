/- Rows: all cells that are there, by their versions. -/
import Derived.Test.YtleofndjeekalaaS2
import Derived.Test.YtleofndjeekalaaZk
import Derived.KernelRfl
namespace Go.Proofs.Ytleofndjeekalaa
open Go Go.RowKit
set_option maxHeartbeats 4000000 in
set_option maxRecDepth 100000 in
theorem sortedN_spec (w0 : World) (rb : Nat) (r : RSt) (hv : r.ver = []) (he : r.ev = []) : Z.Fn Try.prog w0 28 [.pointer (some ⟨rb, 0, none⟩)] [Z.cl rb 29 [.map none, .map none, .int .i64 r.last]] (fun v Q => Q = [RowP rb r, Z.Own 36 2 v r.ver.length ((sortC r.ver).flatMap Cell.c)]) := by
  refine Z.fn_enter (n := 22) Try.func28 rfl (by rfl) (by rfl) (fun Fr => ?_)
  refine Z.j_app (by repeat (first | exact Z.App.nil | apply Z.App.cons)) ?_
  refine Z.j_seq ?_
  refine Z.j_region ?_
  refine Z.s_box1 rfl rfl (fun b1 => ?_)
  refine Z.s_val (Z.pv_assign rfl) ?_
  refine Z.j_nil ?_
  refine Z.j_then ?_
  refine Z.j_seq ?_
  refine Z.j_region ?_
  refine Z.s_val (Z.pv_assign rfl) ?_
  refine Z.j_nil ?_
  refine Z.j_then ?_
  refine Z.j_seq ?_
  refine Z.j_seq ?_
  refine Z.j_region ?_
  refine Z.s_val (Z.pv_load1 rfl (by repeat (first | with_reducible exact Z.Take.here | apply Z.Take.there)) Try.isAgg51 (by rfl)) ?_
  refine Z.s_val (Z.pv_nil rfl) ?_
  refine Z.s_val (Z.pv_fieldAddr rfl Try.underlying29 rfl Try.sizeOf26 rfl) ?_
  refine Z.s_val (Z.pv_load1 rfl (by repeat (first | with_reducible exact Z.Take.here | apply Z.Take.there)) Try.isAgg26 (by rfl)) ?_
  refine Z.s_range0 rfl Try.underlying26 (fun r9 => ?_)
  refine Z.j_nil ?_
  refine Z.j_then ?_
  refine Z.j_block ?_
  refine Z.j_initF (E' := [(1, .pointer (some ⟨b1, 0, none⟩)), (3, .slice none 0 0), (9, .pointer (some ⟨r9, 0, none⟩))]) (As := [Z.pt r9 (.mapIter none 0 #[] 0), Z.cl b1 51 [.pointer (some ⟨rb, 0, none⟩)], Z.cl rb 29 [.map none, .map none, .int .i64 r.last]]) (Fr := Fr) (by repeat (first | exact trivial | refine ⟨rfl, ?_⟩)) (by repeat (first | with_reducible exact Z.Takes.nil | (apply Z.Takes.cons; (repeat (first | with_reducible exact Z.Take.here | apply Z.Take.there))))) (by repeat (first | with_reducible exact Z.Drop.nil | apply Z.Drop.cons)) ?_
  refine Z.j_loop (X := { x : (Unit) // True }) (fun (x : { x : (Unit) // True }) => [(1, .pointer (some ⟨b1, 0, none⟩)), (3, .slice none 0 0), (9, .pointer (some ⟨r9, 0, none⟩))]) (fun x => (fun (x : { x : (Unit) // True }) => [Z.pt r9 (.mapIter none 0 #[] 0), Z.cl b1 51 [.pointer (some ⟨rb, 0, none⟩)], Z.cl rb 29 [.map none, .map none, .int .i64 r.last]]) x ++ Fr) (fun (x : { x : (Unit) // True }) => 0) ⟨(()), trivial⟩ (fun x => ?_)
  obtain ⟨u, hinv⟩ := x
  have hinv' : True := hinv
  obtain _ := hinv'
  show Z.J _ _ _ ([(1, .pointer (some ⟨b1, 0, none⟩)), (3, .slice none 0 0), (9, .pointer (some ⟨r9, 0, none⟩))]) ([Z.pt r9 (.mapIter none 0 #[] 0), Z.cl b1 51 [.pointer (some ⟨rb, 0, none⟩)], Z.cl rb 29 [.map none, .map none, .int .i64 r.last]] ++ Fr) _
  refine Z.j_app (by repeat (first | exact Z.App.nil | apply Z.App.cons)) ?_
  refine Z.j_seq ?_
  refine Z.j_region ?_
  refine Z.s_next0 rfl (by repeat (first | with_reducible exact Z.Take.here | apply Z.Take.there)) ?_
  refine Z.s_val (Z.pv_extract rfl rfl) ?_
  refine Z.j_nil ?_
  refine Z.j_then ?_
  refine Z.j_seq ?_
  refine Z.j_cond rfl (fun hc11 => ?_) (fun hc11 => ?_)
  · exfalso; first | (cases hc11; done) | (simp at hc11; done) | (simp at hc11; omega) | (replace hc11 := of_decide_eq_true hc11; contradiction) | (replace hc11 := of_decide_eq_false hc11; contradiction)
  · try (with_reducible first | replace hc11 := of_decide_eq_true hc11 | replace hc11 := of_decide_eq_false hc11 | replace hc11 := Z.nd_true hc11 | replace hc11 := Z.nd_false hc11 | replace hc11 := Z.nn_true hc11 | replace hc11 := Z.nn_false hc11 | replace hc11 := Z.nb_true hc11 | replace hc11 := Z.nb_false hc11)
    first
    | (exfalso; first | (cases hc11; done) | omega)
    | skip
      refine Z.j_exit ?_
      refine Z.j_then_exit ?_
      refine Z.j_then_exit ?_
      refine Z.j_blk_here rfl ?_
      refine Z.j_then ?_
      refine Z.j_seq ?_
      refine Z.j_region ?_
      refine Z.s_val (Z.pv_move rfl) ?_
      refine Z.s_val (Z.pv_func rfl rfl) ?_
      refine Z.s_callD rfl rfl rfl isFn34 (by repeat (first | with_reducible exact Z.Takes.nil | (apply Z.Takes.cons; (repeat (first | with_reducible exact Z.Take.here | apply Z.Take.there))))) (by repeat (first | exact Z.App.nil | apply Z.App.cons)) (sort0_spec _ _ _ _) ?_
      refine Z.j_nil ?_
      refine Z.j_then ?_
      refine Z.j_seq ?_
      refine Z.j_region ?_
      refine Z.s_val (Z.pv_move rfl) ?_
      refine Z.s_val (Z.pv_assign rfl) ?_
      refine Z.j_nil ?_
      refine Z.j_then ?_
      refine Z.j_ret ?_
      refine Z.j_fold (A := RowP rb r) (As := [Z.cl rb 29 [.map none, .map none, .int .i64 r.last]]) (by repeat (first | with_reducible exact Z.Takes.nil | (apply Z.Takes.cons; (repeat (first | with_reducible exact Z.Take.here | apply Z.Take.there))))) (fun _ H => rowP_none hv he H) ?_
      refine Z.J.own_nil 36 2 ?_
      refine Z.j_done_ret (Z.rv1 (Z.rv_tmp (t := 2) rfl)) ?_
      exact Z.post_of (Qs := [RowP rb r, Z.Own 36 2 (.slice none 0 0) 0 []]) (by rw [hv]; rfl) (by repeat (first | with_reducible exact Z.Takes.nil | (apply Z.Takes.cons; (repeat (first | with_reducible exact Z.Take.here | apply Z.Take.there))))) (by repeat (first | with_reducible exact Z.Drop.nil | apply Z.Drop.cons))

set_option maxHeartbeats 4000000 in
set_option maxRecDepth 100000 in
theorem sortedS_spec (w0 : World) (rb : Nat) (r : RSt) (vb eb : Nat) (hr : r.ok) : Z.Fn Try.prog w0 28 [.pointer (some ⟨rb, 0, none⟩)] [Z.cl rb 29 [.map (some vb), .map (some eb), .int .i64 r.last], Z.MapP vb Cell.e (Value.int .i64) r.ver, Z.MapP eb Cell.e Value.bool r.ev] (fun v Q => Q = [RowP rb r, Z.Own 36 2 v r.ver.length ((sortC r.ver).flatMap Cell.c)]) := by
  have hlen := hr.len
  have hl1 := hr.l1
  refine Z.fn_enter (n := 22) Try.func28 rfl (by rfl) (by rfl) (fun Fr => ?_)
  refine Z.j_app (by repeat (first | exact Z.App.nil | apply Z.App.cons)) ?_
  refine Z.j_seq ?_
  refine Z.j_region ?_
  refine Z.s_box1 rfl rfl (fun b1 => ?_)
  refine Z.s_val (Z.pv_assign rfl) ?_
  refine Z.j_nil ?_
  refine Z.j_then ?_
  refine Z.j_seq ?_
  refine Z.j_region ?_
  refine Z.s_val (Z.pv_assign rfl) ?_
  refine Z.j_nil ?_
  refine Z.j_then ?_
  refine Z.j_seq ?_
  refine Z.j_seq ?_
  refine Z.j_region ?_
  refine Z.s_val (Z.pv_load1 rfl (by repeat (first | with_reducible exact Z.Take.here | apply Z.Take.there)) Try.isAgg51 (by rfl)) ?_
  refine Z.s_val (Z.pv_nil rfl) ?_
  refine Z.s_val (Z.pv_fieldAddr rfl Try.underlying29 rfl Try.sizeOf26 rfl) ?_
  refine Z.s_val (Z.pv_load1 rfl (by repeat (first | with_reducible exact Z.Take.here | apply Z.Take.there)) Try.isAgg26 (by rfl)) ?_
  refine Z.s_range rfl Try.underlying26 (by repeat (first | with_reducible exact Z.Take.here | apply Z.Take.there)) (fun r9 bs9 clock9 hk9 => ?_)
  refine Z.j_nil ?_
  refine Z.j_then ?_
  refine Z.j_block ?_
  have hz2 : ((r.ver.zip bs9).map (·.2)).Nodup := by rw [Z.zip_snd hk9.1]; exact hk9.2.1
  refine Z.J.own_nil 36 2 ?_
  refine Z.j_cast (A := Z.Own 36 2 (.slice none 0 0) 0 []) (B := Z.Own 36 2 (.slice none 0 0) ([] : List Cell).length (([] : List Cell).flatMap Cell.c)) (by repeat (first | with_reducible exact Z.Take.here | apply Z.Take.there)) rfl ?_
  refine Z.j_initF (E' := [(1, .pointer (some ⟨b1, 0, none⟩)), (3, (.slice none 0 0)), (9, .pointer (some ⟨r9, 0, none⟩))]) (As := [Z.It r9 vb clock9 (#[]), Z.MapB vb Cell.e (Value.int .i64) r.ver bs9 clock9, Z.cl b1 51 [.pointer (some ⟨rb, 0, none⟩)], Z.cl rb 29 [.map (some vb), .map (some eb), .int .i64 r.last], Z.MapP eb Cell.e Value.bool r.ev, Z.Own 36 2 (.slice none 0 0) ([]).length (([]).flatMap Cell.c)]) (Fr := Fr) (by repeat (first | exact trivial | refine ⟨rfl, ?_⟩)) (by repeat (first | with_reducible exact Z.Takes.nil | (apply Z.Takes.cons; (repeat (first | with_reducible exact Z.Take.here | apply Z.Take.there))))) (by repeat (first | with_reducible exact Z.Drop.nil | apply Z.Drop.cons)) ?_
  refine Z.j_loop (X := { x : (Array Nat) × (List Cell) × (Value) // (x.2.1).Perm (Z.seenG (r.ver.zip bs9) (x.1)) }) (fun (x : { x : (Array Nat) × (List Cell) × (Value) // (x.2.1).Perm (Z.seenG (r.ver.zip bs9) (x.1)) }) => [(1, .pointer (some ⟨b1, 0, none⟩)), (3, (x.1.2.2)), (9, .pointer (some ⟨r9, 0, none⟩))]) (fun x => (fun (x : { x : (Array Nat) × (List Cell) × (Value) // (x.2.1).Perm (Z.seenG (r.ver.zip bs9) (x.1)) }) => [Z.It r9 vb clock9 (x.1.1), Z.MapB vb Cell.e (Value.int .i64) r.ver bs9 clock9, Z.cl b1 51 [.pointer (some ⟨rb, 0, none⟩)], Z.cl rb 29 [.map (some vb), .map (some eb), .int .i64 r.last], Z.MapP eb Cell.e Value.bool r.ev, Z.Own 36 2 (x.1.2.2) (x.1.2.1).length ((x.1.2.1).flatMap Cell.c)]) x ++ Fr) (fun (x : { x : (Array Nat) × (List Cell) × (Value) // (x.2.1).Perm (Z.seenG (r.ver.zip bs9) (x.1)) }) => Z.mleft bs9 (x.1.1)) ⟨(#[], [], .slice none 0 0), by rw [Z.seenG_nil]⟩ (fun x => ?_)
  obtain ⟨⟨seen, pre, v⟩, hinv⟩ := x
  have hinv' : pre.Perm (Z.seenG (r.ver.zip bs9) seen) := hinv
  have hpre := hinv'
  show Z.J _ _ _ ([(1, .pointer (some ⟨b1, 0, none⟩)), (3, v), (9, .pointer (some ⟨r9, 0, none⟩))]) ([Z.It r9 vb clock9 seen, Z.MapB vb Cell.e (Value.int .i64) r.ver bs9 clock9, Z.cl b1 51 [.pointer (some ⟨rb, 0, none⟩)], Z.cl rb 29 [.map (some vb), .map (some eb), .int .i64 r.last], Z.MapP eb Cell.e Value.bool r.ev, Z.Own 36 2 v pre.length (pre.flatMap Cell.c)] ++ Fr) _
  refine Z.j_app (by repeat (first | exact Z.App.nil | apply Z.App.cons)) ?_
  refine Z.j_seq ?_
  refine Z.j_region ?_
  refine Z.s_next rfl hk9 (by repeat (first | with_reducible exact Z.Take.here | apply Z.Take.there)) (fun _ => (by repeat (first | with_reducible exact Z.Upd.here | apply Z.Upd.there))) (fun hall10 => ?_) (fun ix10 ky10 vl10 y10 hm10 hy10 hns10 hlt10 => ?_)
  · skip
    refine Z.s_val (Z.pv_extract rfl rfl) ?_
    refine Z.j_nil ?_
    refine Z.j_then ?_
    refine Z.j_seq ?_
    refine Z.j_cond rfl (fun hc11 => ?_) (fun hc11 => ?_)
    · exfalso; first | (cases hc11; done) | (simp at hc11; done) | (simp at hc11; omega) | (replace hc11 := of_decide_eq_true hc11; contradiction) | (replace hc11 := of_decide_eq_false hc11; contradiction)
    · try (with_reducible first | replace hc11 := of_decide_eq_true hc11 | replace hc11 := of_decide_eq_false hc11 | replace hc11 := Z.nd_true hc11 | replace hc11 := Z.nd_false hc11 | replace hc11 := Z.nn_true hc11 | replace hc11 := Z.nn_false hc11 | replace hc11 := Z.nb_true hc11 | replace hc11 := Z.nb_false hc11)
      first
      | (exfalso; first | (cases hc11; done) | omega)
      | skip
        refine Z.j_exit ?_
        refine Z.j_then_exit ?_
        refine Z.j_then_exit ?_
        refine Z.j_blk_here rfl ?_
        refine Z.j_then ?_
        refine Z.j_seq ?_
        refine Z.J.mapP_close (by repeat (first | with_reducible exact Z.Take.here | apply Z.Take.there)) hk9 ?_
        have hpf : pre.Perm (Z.ks r.ver) := by rw [Z.zip_ks hk9.1, ← Z.seenG_all (seen := seen) (by rw [Z.zip_snd hk9.1]; exact hall10)]; exact hpre
        have hpl := hpf.length_eq
        simp at hpl
        refine Z.j_region ?_
        refine Z.s_val (Z.pv_move rfl) ?_
        refine Z.s_val (Z.pv_func rfl rfl) ?_
        refine Z.j_unown (T := 36) (k := 2) (v := v) (by repeat (first | with_reducible exact Z.Take.here | apply Z.Take.there)) (fun f1 f2 f3 => ?_) (fun nb cap sp f1 f2 f3 => ?_)
        · skip
          subst f1
          have hv0 : r.ver = [] := List.eq_nil_of_length_eq_zero (by omega)
          refine Z.s_callD rfl rfl rfl isFn34 (by repeat (first | with_reducible exact Z.Takes.nil | (apply Z.Takes.cons; (repeat (first | with_reducible exact Z.Take.here | apply Z.Take.there))))) (by repeat (first | exact Z.App.nil | apply Z.App.cons)) (sort0_spec _ _ _ _) ?_
          refine Z.J.own_nil 36 2 ?_
          refine Z.j_cast (A := Z.Own 36 2 (.slice none 0 0) 0 []) (B := Z.Own 36 2 (.slice none 0 0) r.ver.length ((sortC r.ver).flatMap Cell.c)) (by repeat (first | with_reducible exact Z.Take.here | apply Z.Take.there)) (by rw [hv0]; rfl) ?_
          refine Z.j_nil ?_
          refine Z.j_then ?_
          refine Z.j_seq ?_
          refine Z.j_region ?_
          refine Z.s_val (Z.pv_move rfl) ?_
          refine Z.s_val (Z.pv_assign rfl) ?_
          refine Z.j_nil ?_
          refine Z.j_then ?_
          refine Z.j_ret ?_
          refine Z.j_fold (A := RowP rb r) (As := [Z.cl rb 29 [.map (some vb), .map (some eb), .int .i64 r.last], Z.MapP vb Cell.e (Value.int .i64) r.ver, Z.MapP eb Cell.e Value.bool r.ev]) (by repeat (first | with_reducible exact Z.Takes.nil | (apply Z.Takes.cons; (repeat (first | with_reducible exact Z.Take.here | apply Z.Take.there))))) (fun _ H => rowP_some H) ?_
          refine Z.j_done_ret (Z.rv1 (Z.rv_tmp (t := 2) rfl)) ?_
          exact Z.post_of rfl (by repeat (first | with_reducible exact Z.Takes.nil | (apply Z.Takes.cons; (repeat (first | with_reducible exact Z.Take.here | apply Z.Take.there))))) (by repeat (first | with_reducible exact Z.Drop.nil | apply Z.Drop.cons))
        · skip
          subst f1
          refine Z.s_callD rfl rfl rfl isFn34 (by repeat (first | with_reducible exact Z.Takes.nil | (apply Z.Takes.cons; (repeat (first | with_reducible exact Z.Take.here | apply Z.Take.there))))) (by repeat (first | exact Z.App.nil | apply Z.App.cons)) (sort1_spec _ nb pre.length cap b1 rb vb r pre sp _ _ hr rfl hpf) ?_
          refine Z.j_own (T := 36) (k := 2) (m := pre.length) (cap := cap) (c := (sortC r.ver).flatMap Cell.c) (sp := sp) (by repeat (first | with_reducible exact Z.Take.here | apply Z.Take.there)) (by rw [Z.flat_len Cell.len, sortC_len, hpl]) (by rw [Z.flat_len Cell.len, sortC_len, ← hpl, ← Z.flat_len Cell.len]; exact f3) ?_
          refine Z.j_cast (A := Z.Own 36 2 (.slice (some ⟨nb, 0, none⟩) pre.length cap) pre.length ((sortC r.ver).flatMap Cell.c)) (B := Z.Own 36 2 (.slice (some ⟨nb, 0, none⟩) pre.length cap) r.ver.length ((sortC r.ver).flatMap Cell.c)) (by repeat (first | with_reducible exact Z.Take.here | apply Z.Take.there)) (by rw [hpl]) ?_
          refine Z.j_nil ?_
          refine Z.j_then ?_
          refine Z.j_seq ?_
          refine Z.j_region ?_
          refine Z.s_val (Z.pv_move rfl) ?_
          refine Z.s_val (Z.pv_assign rfl) ?_
          refine Z.j_nil ?_
          refine Z.j_then ?_
          refine Z.j_ret ?_
          refine Z.j_fold (A := RowP rb r) (As := [Z.cl rb 29 [.map (some vb), .map (some eb), .int .i64 r.last], Z.MapP vb Cell.e (Value.int .i64) r.ver, Z.MapP eb Cell.e Value.bool r.ev]) (by repeat (first | with_reducible exact Z.Takes.nil | (apply Z.Takes.cons; (repeat (first | with_reducible exact Z.Take.here | apply Z.Take.there))))) (fun _ H => rowP_some H) ?_
          refine Z.j_done_ret (Z.rv1 (Z.rv_tmp (t := 2) rfl)) ?_
          exact Z.post_of rfl (by repeat (first | with_reducible exact Z.Takes.nil | (apply Z.Takes.cons; (repeat (first | with_reducible exact Z.Take.here | apply Z.Take.there))))) (by repeat (first | with_reducible exact Z.Drop.nil | apply Z.Drop.cons))
  · skip
    refine Z.s_val (Z.pv_extract rfl rfl) ?_
    refine Z.j_nil ?_
    refine Z.j_then ?_
    refine Z.j_seq ?_
    refine Z.j_cond rfl (fun hc11 => ?_) (fun hc11 => ?_)
    · try (with_reducible first | replace hc11 := of_decide_eq_true hc11 | replace hc11 := of_decide_eq_false hc11 | replace hc11 := Z.nd_true hc11 | replace hc11 := Z.nd_false hc11 | replace hc11 := Z.nn_true hc11 | replace hc11 := Z.nn_false hc11 | replace hc11 := Z.nb_true hc11 | replace hc11 := Z.nb_false hc11)
      first
      | (exfalso; first | (cases hc11; done) | omega)
      | skip
        have hq : ((ky10, vl10), y10) ∈ r.ver.zip bs9 := List.mem_of_getElem? (i := ix10) (List.getElem?_zip_eq_some.2 ⟨hm10, hy10⟩)
        have hpl := (Z.seenG_ok (Z.zip_ks hk9.1) hpre).len
        simp at hpl
        refine Z.j_skip ?_
        refine Z.j_then ?_
        refine Z.j_block ?_
        refine Z.j_seq ?_
        refine Z.j_region ?_
        refine Z.s_val (Z.pv_entry rfl hk9 hm10 hy10 (by repeat (first | with_reducible exact Z.Take.here | apply Z.Take.there)) (by repeat (first | with_reducible exact Z.Take.here | apply Z.Take.there))) ?_
        refine Z.s_val (Z.pv_extract rfl rfl) ?_
        refine Z.s_alloc Try.zeroValue36 (fun b4 => ?_)
        refine Z.s_storeA rfl rfl Try.sizeOf36 rfl (by repeat (first | with_reducible exact Z.Upd.here | apply Z.Upd.there)) (by rfl) ?_
        refine Z.j_nil ?_
        refine Z.j_then ?_
        refine Z.j_region ?_
        refine Z.s_val (Z.pv_move rfl) ?_
        refine Z.s_val (Z.pv_loadA rfl (by repeat (first | with_reducible exact Z.Take.here | apply Z.Take.there)) Try.isAgg36 Try.sizeOf36 (by rfl)) ?_
        refine Z.s_buildSlice rfl Try.underlying30 Try.zeroValue36 Try.sizeOf36 rfl rfl rfl rfl (fun b16 => ?_)
        refine Z.s_append (k := 2) (by' := 16) rfl rfl (by repeat (first | with_reducible exact Z.Take.here | apply Z.Take.there)) (Z.reads_cl (by repeat (first | with_reducible exact Z.Take.here | apply Z.Take.there)) (k := 2) (by rfl)) Try.underlying30 Try.typeInfo36 rfl rfl rfl rfl rfl rfl (.inl (by omega)) (by omega) (by omega) (fun v17 hv17 => ?_)
        refine Z.s_val (Z.pv_assign rfl) ?_
        refine Z.j_nil ?_
        refine Z.j_blk ?_
        refine Z.j_then ?_
        refine Z.j_cast (A := Z.Own 36 2 v17 (pre.length + 1) (pre.flatMap Cell.c ++ [.int .i64 ky10.l, .int .u32 ky10.k])) (B := Z.Own 36 2 v17 (pre ++ [ky10]).length ((pre ++ [ky10]).flatMap Cell.c)) (by repeat (first | with_reducible exact Z.Take.here | apply Z.Take.there)) (by simp [Cell.c]) ?_
        (refine Z.j_nextG (X := { x : (Array Nat) × (List Cell) × (Value) // (x.2.1).Perm (Z.seenG (r.ver.zip bs9) (x.1)) }) (EE := (fun (x : { x : (Array Nat) × (List Cell) × (Value) // (x.2.1).Perm (Z.seenG (r.ver.zip bs9) (x.1)) }) => [(1, .pointer (some ⟨b1, 0, none⟩)), (3, (x.1.2.2)), (9, .pointer (some ⟨r9, 0, none⟩))])) (LL := (fun (x : { x : (Array Nat) × (List Cell) × (Value) // (x.2.1).Perm (Z.seenG (r.ver.zip bs9) (x.1)) }) => [Z.It r9 vb clock9 (x.1.1), Z.MapB vb Cell.e (Value.int .i64) r.ver bs9 clock9, Z.cl b1 51 [.pointer (some ⟨rb, 0, none⟩)], Z.cl rb 29 [.map (some vb), .map (some eb), .int .i64 r.last], Z.MapP eb Cell.e Value.bool r.ev, Z.Own 36 2 (x.1.2.2) (x.1.2.1).length ((x.1.2.1).flatMap Cell.c)])) (μ := (fun (x : { x : (Array Nat) × (List Cell) × (Value) // (x.2.1).Perm (Z.seenG (r.ver.zip bs9) (x.1)) }) => Z.mleft bs9 (x.1.1))) (x := ⟨(seen, pre, v), hinv⟩) ⟨(seen.push y10, pre ++ [ky10], v17), Z.seenG_push hz2 hq hns10 hpre⟩ ?_ ?_ ?_; (show Z.mleft bs9 (seen.push y10) < Z.mleft bs9 seen; omega); (exact (by repeat (first | exact trivial | refine ⟨rfl, ?_⟩))); (exact Z.st_td (by repeat (first | with_reducible exact Z.Takes.nil | (apply Z.Takes.cons; (repeat (first | with_reducible exact Z.Take.here | apply Z.Take.there))))) (by repeat (first | with_reducible exact Z.Drop.nil | apply Z.Drop.cons))))
    · exfalso; first | (cases hc11; done) | (simp at hc11; done) | (simp at hc11; omega) | (replace hc11 := of_decide_eq_true hc11; contradiction) | (replace hc11 := of_decide_eq_false hc11; contradiction)


theorem sorted_spec (w0 : World) (rb : Nat) (r : RSt) (hr : r.ok) : Z.Fn Try.prog w0 28 [.pointer (some ⟨rb, 0, none⟩)] [RowP rb r] (fun v Q => Q = [RowP rb r, Z.Own 36 2 v r.ver.length ((sortC r.ver).flatMap Cell.c)]) := fun Fr w hs => by
  rcases rowP_cases (R := Fr) hs with ⟨hv, he, H⟩ | ⟨vb, eb, H⟩
  · exact sortedN_spec w0 rb r hv he Fr w H
  · exact sortedS_spec w0 rb r vb eb hr Fr w H

end Go.Proofs.Ytleofndjeekalaa
