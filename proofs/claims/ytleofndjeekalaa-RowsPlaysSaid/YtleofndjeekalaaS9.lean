/- Rows: RowsTwice. -/
import Derived.Test.YtleofndjeekalaaS8
namespace Go.Proofs.Ytleofndjeekalaa
open Go Go.RowKit

theorem AreaRo.up {w0 w : World} {L : List Z.SP} {v : Value} {a : Area} (h : AreaRo w0 v a) (H : Z.St w0 L w) : AreaRo w v a := by
  obtain ⟨p, cap, hs, e, hh, hp, hS⟩ := h
  refine ⟨p, cap, hs, e, hh, fun h0 => ?_, fun i => ?_⟩
  · obtain ⟨b, o, e1, hr⟩ := hp h0
    exact ⟨b, o, e1, hr.up H⟩
  · obtain ⟨p, cap, e, hp⟩ := hS i
    refine ⟨p, cap, e, fun h0 => ?_⟩
    obtain ⟨b, o, e1, hr⟩ := hp h0
    exact ⟨b, o, e1, hr.up H⟩
theorem filt_t {f : Cell → Bool} {pre : List Cell} {k : Cell} (h : f k = true) : ((pre ++ [k]).filter f).length = (pre.filter f).length + 1 := by simp [h]
theorem filt_f {f : Cell → Bool} {pre : List Cell} {k : Cell} (h : f k = false) : ((pre ++ [k]).filter f).length = (pre.filter f).length := by simp [h]
theorem get_i64 {l : List Int} {i : Nat} (sp : List Value) (h : i < l.length) : (i64s l ++ sp)[i]? = some (.int .i64 (l.getD i 0)) := by
  rw [List.getElem?_append_left (by simpa [i64s] using h)]
  simp [i64s, List.getElem?_eq_getElem h, List.getD]

set_option maxHeartbeats 4000000 in
set_option maxRecDepth 100000 in
theorem twice_law (w0 : World) (p : Option Addr) (n cap : Nat) (os : List OpR) (hn : os.length = n) (hro : 0 < n → ∃ b o, p = some ⟨b, o, none⟩ ∧ Z.Ro w0 b o (os.flatMap OpR.c)) (hos : ∀ o ∈ os, o.Ok) (v : Value) (a : Area) (hA : AreaRo w0 v a) (hao : AreaOk a) : Z.FnD Try.prog w0 4 [.slice p n cap, v] [] (.bool true) [] := by
  refine Z.Fn.fnD ?_
  refine Z.fn_enterM (n := 149) Try.func4 rfl (by rfl) (by rfl) (fun Fr => ?_)
  refine Z.j_app (by repeat (first | exact Z.App.nil | apply Z.App.cons)) ?_
  refine Z.j_seq ?_
  refine Z.j_region ?_
  refine Z.s_val (Z.pv_assign rfl) ?_
  refine Z.j_nil ?_
  refine Z.j_then ?_
  refine Z.j_seq ?_
  refine Z.j_seq ?_
  refine Z.j_region ?_
  refine Z.s_callD rfl rfl rfl isFn7 (by repeat (first | with_reducible exact Z.Takes.nil | (apply Z.Takes.cons; (repeat (first | with_reducible exact Z.Take.here | apply Z.Take.there))))) (by repeat (first | exact Z.App.nil | apply Z.App.cons)) (alive_spec _) ?_
  refine Z.s_val (Z.pv_not rfl) ?_
  refine Z.j_nil ?_
  refine Z.j_then ?_
  refine Z.j_cond rfl (fun hc23 => ?_) (fun hc23 => ?_)
  · exfalso; first | (cases hc23; done) | (simp at hc23; done) | (simp at hc23; omega) | (replace hc23 := of_decide_eq_true hc23; contradiction) | (replace hc23 := of_decide_eq_false hc23; contradiction)
  · try (with_reducible first | replace hc23 := of_decide_eq_true hc23 | replace hc23 := of_decide_eq_false hc23 | replace hc23 := Z.nd_true hc23 | replace hc23 := Z.nd_false hc23 | replace hc23 := Z.nn_true hc23 | replace hc23 := Z.nn_false hc23 | replace hc23 := Z.nb_true hc23 | replace hc23 := Z.nb_false hc23)
    first
    | (exfalso; first | (cases hc23; done) | omega)
    | skip
      refine Z.j_skip ?_
      refine Z.j_then ?_
      refine Z.j_seq ?_
      refine Z.j_seq ?_
      refine Z.j_region ?_
      refine Z.s_val (Z.pv_move rfl) ?_
      refine Z.s_val (Z.pv_len rfl Try.underlying22) ?_
      refine Z.s_val (Z.pv_gtr rfl rfl) ?_
      refine Z.s_val (Z.pv_move rfl) ?_
      refine Z.s_split 27 rfl (fun hg27 => ?_) (fun hg27 => ?_)
      · try (with_reducible first | replace hg27 := of_decide_eq_true hg27 | replace hg27 := of_decide_eq_false hg27 | replace hg27 := Z.nd_true hg27 | replace hg27 := Z.nd_false hg27 | replace hg27 := Z.nn_true hg27 | replace hg27 := Z.nn_false hg27 | replace hg27 := Z.nb_true hg27 | replace hg27 := Z.nb_false hg27)
        first
        | (exfalso; first | (cases hg27; done) | omega)
        | skip
          refine Z.s_skip ?_
          refine Z.s_skip ?_
          refine Z.s_skip ?_
          refine Z.s_val (Z.pv_pick rfl rfl) ?_
          refine Z.j_nil ?_
          refine Z.j_then ?_
          refine Z.j_cond rfl (fun hc31 => ?_) (fun hc31 => ?_)
          · try (with_reducible first | replace hc31 := of_decide_eq_true hc31 | replace hc31 := of_decide_eq_false hc31 | replace hc31 := Z.nd_true hc31 | replace hc31 := Z.nd_false hc31 | replace hc31 := Z.nn_true hc31 | replace hc31 := Z.nn_false hc31 | replace hc31 := Z.nb_true hc31 | replace hc31 := Z.nb_false hc31)
            first
            | (exfalso; first | (cases hc31; done) | omega)
            | skip
              refine Z.j_seq ?_
              refine Z.j_region ?_
              refine Z.s_val (Z.pv_assign rfl) ?_
              refine Z.j_nil ?_
              refine Z.j_then ?_
              refine Z.j_ret ?_
              refine Z.j_then_ret ?_
              refine Z.j_doneM_ret (bs := []) .nil (Z.rv1 (Z.rv_tmp (t := 4) rfl)) ?_
              first | exact Z.post_of ⟨rfl, rfl⟩ (by repeat (first | with_reducible exact Z.Takes.nil | (apply Z.Takes.cons; (repeat (first | with_reducible exact Z.Take.here | apply Z.Take.there))))) (by repeat (first | with_reducible exact Z.Drop.nil | apply Z.Drop.cons)) | exact Z.post_of ⟨congrArg Value.bool (decide_eq_true rfl), rfl⟩ (by repeat (first | with_reducible exact Z.Takes.nil | (apply Z.Takes.cons; (repeat (first | with_reducible exact Z.Take.here | apply Z.Take.there))))) (by repeat (first | with_reducible exact Z.Drop.nil | apply Z.Drop.cons))
          · try (with_reducible first | replace hc31 := of_decide_eq_true hc31 | replace hc31 := of_decide_eq_false hc31 | replace hc31 := Z.nd_true hc31 | replace hc31 := Z.nd_false hc31 | replace hc31 := Z.nn_true hc31 | replace hc31 := Z.nn_false hc31 | replace hc31 := Z.nb_true hc31 | replace hc31 := Z.nb_false hc31)
            first
            | (exfalso; first | (cases hc31; done) | omega)
            | skip
              have hfew : fewA a = true := by first | exact hc31 | simpa using hc31
              have hn60 : n ≤ 60 := by omega
              refine Z.j_skip ?_
              refine Z.j_then ?_
              refine Z.j_seq ?_
              refine Z.j_region ?_
              refine Z.s_alloc Try.zeroValue29 (fun b5 => ?_)
              refine Z.j_nil ?_
              refine Z.j_then ?_
              refine Z.j_seq ?_
              refine Z.j_region ?_
              refine Z.s_makeMap Cell.e (Value.int .i64) (fun b32 => ?_)
              refine Z.s_val (Z.pv_assign rfl) ?_
              refine Z.j_nil ?_
              refine Z.j_then ?_
              refine Z.j_seq ?_
              refine Z.j_seq ?_
              refine Z.j_fold (A := RowP b5 (rt os 0)) (As := [Z.cl b5 29 [.map none, .map none, .int .i64 0]]) (by repeat (first | with_reducible exact Z.Takes.nil | (apply Z.Takes.cons; (repeat (first | with_reducible exact Z.Take.here | apply Z.Take.there))))) (fun _ H => rowP_none (r := RSt.z) rfl rfl H) ?_
              refine Z.j_cast (A := Z.MapP b32 Cell.e (Value.int .i64) []) (B := Z.MapP b32 Cell.e (Value.int .i64) (rt os 0).ver) (by repeat (first | with_reducible exact Z.Take.here | apply Z.Take.there)) rfl ?_
              refine Z.j_region ?_
              refine Z.s_val (Z.pv_move rfl) ?_
              refine Z.s_val (Z.pv_len rfl Try.underlying22) ?_
              refine Z.s_val (Z.pv_move rfl) ?_
              refine Z.j_nil ?_
              refine Z.j_then ?_
              refine Z.j_block ?_
              refine Z.j_initF (E' := [(0, .slice p n cap), (1, v), (5, .pointer (some ⟨b5, 0, none⟩)), (6, .map (some b32)), (33, .slice p n cap), (34, .int .i64 n), (35, .int .i64 ((0) : Nat))]) (As := [RowP b5 (rt os (0)), Z.MapP b32 Cell.e (Value.int .i64) (rt os (0)).ver]) (Fr := Fr) (by repeat (first | exact trivial | refine ⟨rfl, ?_⟩)) (by repeat (first | with_reducible exact Z.Takes.nil | (apply Z.Takes.cons; (repeat (first | with_reducible exact Z.Take.here | apply Z.Take.there))))) (by repeat (first | with_reducible exact Z.Drop.nil | apply Z.Drop.cons)) ?_
              refine Z.j_loop (X := { x : (Nat) // (x) ≤ n }) (fun (x : { x : (Nat) // (x) ≤ n }) => [(0, .slice p n cap), (1, v), (5, .pointer (some ⟨b5, 0, none⟩)), (6, .map (some b32)), (33, .slice p n cap), (34, .int .i64 n), (35, .int .i64 ((x.1) : Nat))]) (fun x => (fun (x : { x : (Nat) // (x) ≤ n }) => [RowP b5 (rt os (x.1)), Z.MapP b32 Cell.e (Value.int .i64) (rt os (x.1)).ver]) x ++ Fr) (fun (x : { x : (Nat) // (x) ≤ n }) => n - (x.1)) ⟨(0), by omega⟩ (fun x => ?_)
              obtain ⟨i, hinv⟩ := x
              have hinv' : i ≤ n := hinv
              have hi := hinv'
              show Z.J _ _ _ ([(0, .slice p n cap), (1, v), (5, .pointer (some ⟨b5, 0, none⟩)), (6, .map (some b32)), (33, .slice p n cap), (34, .int .i64 n), (35, .int .i64 (i : Nat))]) ([RowP b5 (rt os i), Z.MapP b32 Cell.e (Value.int .i64) (rt os i).ver] ++ Fr) _
              refine Z.j_app (by repeat (first | exact Z.App.nil | apply Z.App.cons)) ?_
              refine Z.j_seq ?_
              refine Z.j_region ?_
              refine Z.s_val (Z.pv_lss rfl rfl) ?_
              refine Z.j_nil ?_
              refine Z.j_then ?_
              refine Z.j_seq ?_
              refine Z.j_cond rfl (fun hc36 => ?_) (fun hc36 => ?_)
              · try (with_reducible first | replace hc36 := of_decide_eq_true hc36 | replace hc36 := of_decide_eq_false hc36 | replace hc36 := Z.nd_true hc36 | replace hc36 := Z.nd_false hc36 | replace hc36 := Z.nn_true hc36 | replace hc36 := Z.nn_false hc36 | replace hc36 := Z.nb_true hc36 | replace hc36 := Z.nb_false hc36)
                first
                | (exfalso; first | (cases hc36; done) | omega)
                | skip
                  obtain ⟨b1, o1, e1, hr1⟩ := hro (by omega)
                  refine Z.j_skip ?_
                  refine Z.j_then ?_
                  refine Z.j_seq ?_
                  refine Z.j_block ?_
                  refine Z.j_seq ?_
                  refine Z.j_region ?_
                  refine Z.s_val (Z.pv_move rfl) ?_
                  refine Z.s_val (Z.pv_indexAddr (o' := o1 + i * 3) (b := b1) (o := o1) (len := n) (cap := cap) (by show some (Value.slice p n cap) = _; rw [e1]) rfl Try.underlying22 Try.sizeOf38 (by omega) (by simp)) ?_
                  refine Z.s_val (Z.pv_loadAr (b := b1) (o := o1) (j := i * 3) rfl hr1 rfl Try.isAgg38 Try.sizeOf38 (slc_op (by omega))) ?_
                  refine Z.s_alloc Try.zeroValue38 (fun b8 => ?_)
                  refine Z.s_val (Z.pv_assign rfl) ?_
                  refine Z.s_storeA rfl rfl Try.sizeOf38 rfl (by repeat (first | with_reducible exact Z.Upd.here | apply Z.Upd.there)) (by rfl) ?_
                  refine Z.j_nil ?_
                  refine Z.j_then ?_
                  refine Z.j_seq ?_
                  refine Z.j_region ?_
                  refine Z.s_val (Z.pv_fieldAddr (o' := 0) rfl Try.underlying38 rfl Try.sizeOf3 rfl) ?_
                  refine Z.s_val (Z.pv_load1 rfl (by repeat (first | with_reducible exact Z.Take.here | apply Z.Take.there)) Try.isAgg3 (by rfl)) ?_
                  refine Z.s_val (Z.pv_eql rfl rfl) ?_
                  refine Z.s_val (Z.pv_move rfl) ?_
                  refine Z.s_split 43 rfl (fun hg43 => ?_) (fun hg43 => ?_)
                  · try (with_reducible first | replace hg43 := of_decide_eq_true hg43 | replace hg43 := of_decide_eq_false hg43 | replace hg43 := Z.nd_true hg43 | replace hg43 := Z.nd_false hg43 | replace hg43 := Z.nn_true hg43 | replace hg43 := Z.nn_false hg43 | replace hg43 := Z.nb_true hg43 | replace hg43 := Z.nb_false hg43)
                    first
                    | (exfalso; first | (cases hg43; done) | omega)
                    | skip
                      refine Z.s_skip ?_
                      refine Z.s_skip ?_
                      refine Z.s_skip ?_
                      refine Z.s_val (Z.pv_pick rfl rfl) ?_
                      refine Z.j_nil ?_
                      refine Z.j_then ?_
                      refine Z.j_cond rfl (fun hc47 => ?_) (fun hc47 => ?_)
                      · try (with_reducible first | replace hc47 := of_decide_eq_true hc47 | replace hc47 := of_decide_eq_false hc47 | replace hc47 := Z.nd_true hc47 | replace hc47 := Z.nd_false hc47 | replace hc47 := Z.nn_true hc47 | replace hc47 := Z.nn_false hc47 | replace hc47 := Z.nb_true hc47 | replace hc47 := Z.nb_false hc47)
                        first
                        | (exfalso; first | (cases hc47; done) | omega)
                        | skip
                          refine Z.j_seq ?_
                          obtain ⟨hok, hla, hKB⟩ := rt_ok hos i (by omega)
                          have hl0 := hok.l0
                          refine Z.j_region ?_
                          refine Z.s_val (Z.pv_fieldAddr (o' := 1) rfl Try.underlying38 rfl Try.sizeOf36 rfl) ?_
                          refine Z.s_val (Z.pv_loadA rfl (by repeat (first | with_reducible exact Z.Take.here | apply Z.Take.there)) Try.isAgg36 Try.sizeOf36 (by rfl)) ?_
                          refine Z.s_callD rfl rfl rfl isFn11 (by repeat (first | with_reducible exact Z.Takes.nil | (apply Z.Takes.cons; (repeat (first | with_reducible exact Z.Take.here | apply Z.Take.there))))) (by repeat (first | exact Z.App.nil | apply Z.App.cons)) (put_spec _ _ (rt os i) _ _ hok.l0 hok.l1) ?_
                          refine Z.s_val (Z.pv_assign rfl) ?_
                          refine Z.j_nil ?_
                          refine Z.j_then ?_
                          refine Z.j_seq ?_
                          refine Z.j_seq ?_
                          refine Z.j_region ?_
                          refine Z.s_val (Z.pv_move rfl) ?_
                          refine Z.s_range rfl Try.underlying26 (by repeat (first | with_reducible exact Z.Take.here | apply Z.Take.there)) (fun r52 bs52 clock52 hk52 => ?_)
                          refine Z.j_nil ?_
                          refine Z.j_then ?_
                          refine Z.j_block ?_
                          refine Z.j_initF (E' := [(0, .slice p n cap), (1, v), (5, .pointer (some ⟨b5, 0, none⟩)), (6, .map (some b32)), (33, .slice p n cap), (34, .int .i64 n), (35, .int .i64 (i : Nat)), (7, .int .i64 (i : Nat)), (8, .pointer (some ⟨b8, 0, none⟩)), (9, .int .i64 ((rt os i).last + 1)), (52, .pointer (some ⟨r52, 0, none⟩))]) (As := [Z.It r52 b32 clock52 (#[]), Z.MapB b32 Cell.e (Value.int .i64) (rt os i).ver bs52 clock52, RowP b5 ((rt os i).put (⟨(os.getD i OpR.z).l, (os.getD i OpR.z).k⟩ : Cell)), Z.cl b8 38 [.int .i64 (os.getD i OpR.z).kd, .int .i64 (os.getD i OpR.z).l, .int .u32 (os.getD i OpR.z).k]]) (Fr := Fr) (by repeat (first | exact trivial | refine ⟨rfl, ?_⟩)) (by repeat (first | with_reducible exact Z.Takes.nil | (apply Z.Takes.cons; (repeat (first | with_reducible exact Z.Take.here | apply Z.Take.there))))) (by repeat (first | with_reducible exact Z.Drop.nil | apply Z.Drop.cons)) ?_
                          refine Z.j_loop (X := { x : (Array Nat) // True }) (fun (x : { x : (Array Nat) // True }) => [(0, .slice p n cap), (1, v), (5, .pointer (some ⟨b5, 0, none⟩)), (6, .map (some b32)), (33, .slice p n cap), (34, .int .i64 n), (35, .int .i64 (i : Nat)), (7, .int .i64 (i : Nat)), (8, .pointer (some ⟨b8, 0, none⟩)), (9, .int .i64 ((rt os i).last + 1)), (52, .pointer (some ⟨r52, 0, none⟩))]) (fun x => (fun (x : { x : (Array Nat) // True }) => [Z.It r52 b32 clock52 (x.1), Z.MapB b32 Cell.e (Value.int .i64) (rt os i).ver bs52 clock52, RowP b5 ((rt os i).put (⟨(os.getD i OpR.z).l, (os.getD i OpR.z).k⟩ : Cell)), Z.cl b8 38 [.int .i64 (os.getD i OpR.z).kd, .int .i64 (os.getD i OpR.z).l, .int .u32 (os.getD i OpR.z).k]]) x ++ Fr) (fun (x : { x : (Array Nat) // True }) => Z.mleft bs52 (x.1)) ⟨(#[]), trivial⟩ (fun x => ?_)
                          obtain ⟨seen, hinv2⟩ := x
                          have hinv2' : True := hinv2
                          obtain _ := hinv2'
                          show Z.J _ _ _ ([(0, .slice p n cap), (1, v), (5, .pointer (some ⟨b5, 0, none⟩)), (6, .map (some b32)), (33, .slice p n cap), (34, .int .i64 n), (35, .int .i64 (i : Nat)), (7, .int .i64 (i : Nat)), (8, .pointer (some ⟨b8, 0, none⟩)), (9, .int .i64 ((rt os i).last + 1)), (52, .pointer (some ⟨r52, 0, none⟩))]) ([Z.It r52 b32 clock52 seen, Z.MapB b32 Cell.e (Value.int .i64) (rt os i).ver bs52 clock52, RowP b5 ((rt os i).put (⟨(os.getD i OpR.z).l, (os.getD i OpR.z).k⟩ : Cell)), Z.cl b8 38 [.int .i64 (os.getD i OpR.z).kd, .int .i64 (os.getD i OpR.z).l, .int .u32 (os.getD i OpR.z).k]] ++ Fr) _
                          refine Z.j_app (by repeat (first | exact Z.App.nil | apply Z.App.cons)) ?_
                          refine Z.j_seq ?_
                          refine Z.j_region ?_
                          refine Z.s_next rfl hk52 (by repeat (first | with_reducible exact Z.Take.here | apply Z.Take.there)) (fun _ => (by repeat (first | with_reducible exact Z.Upd.here | apply Z.Upd.there))) (fun hall53 => ?_) (fun ix53 ky53 vl53 y53 hm53 hy53 hns53 hlt53 => ?_)
                          · skip
                            refine Z.s_val (Z.pv_extract rfl rfl) ?_
                            refine Z.j_nil ?_
                            refine Z.j_then ?_
                            refine Z.j_seq ?_
                            refine Z.j_cond rfl (fun hc54 => ?_) (fun hc54 => ?_)
                            · exfalso; first | (cases hc54; done) | (simp at hc54; done) | (simp at hc54; omega) | (replace hc54 := of_decide_eq_true hc54; contradiction) | (replace hc54 := of_decide_eq_false hc54; contradiction)
                            · try (with_reducible first | replace hc54 := of_decide_eq_true hc54 | replace hc54 := of_decide_eq_false hc54 | replace hc54 := Z.nd_true hc54 | replace hc54 := Z.nd_false hc54 | replace hc54 := Z.nn_true hc54 | replace hc54 := Z.nn_false hc54 | replace hc54 := Z.nb_true hc54 | replace hc54 := Z.nb_false hc54)
                              first
                              | (exfalso; first | (cases hc54; done) | omega)
                              | skip
                                refine Z.j_exit ?_
                                refine Z.j_then_exit ?_
                                refine Z.j_then_exit ?_
                                refine Z.j_blk_here rfl ?_
                                refine Z.j_then ?_
                                refine Z.j_seq ?_
                                refine Z.j_seq ?_
                                refine Z.J.mapP_close (by repeat (first | with_reducible exact Z.Take.here | apply Z.Take.there)) hk52 ?_
                                refine Z.j_region ?_
                                refine Z.s_val (Z.pv_move rfl) ?_
                                refine Z.s_val (Z.pv_lss rfl rfl) ?_
                                refine Z.s_val (Z.pv_move rfl) ?_
                                refine Z.s_is 62 rfl (show _ = Value.bool false from (congrArg Value.bool (decide_eq_false (by omega)))) ?_
                                refine Z.s_val (Z.pv_move rfl) ?_
                                refine Z.s_val (Z.pv_move rfl) ?_
                                refine Z.s_val (Z.pv_add rfl rfl (by first | exact IntWalk.i64_in _ (by omega) | rfl)) ?_
                                refine Z.s_val (Z.pv_gtr rfl rfl) ?_
                                refine Z.s_val (Z.pv_pick rfl rfl) ?_
                                refine Z.j_nil ?_
                                refine Z.j_then ?_
                                refine Z.j_cond rfl (fun hc67 => ?_) (fun hc67 => ?_)
                                · try (with_reducible first | replace hc67 := of_decide_eq_true hc67 | replace hc67 := of_decide_eq_false hc67 | replace hc67 := Z.nd_true hc67 | replace hc67 := Z.nd_false hc67 | replace hc67 := Z.nn_true hc67 | replace hc67 := Z.nn_false hc67 | replace hc67 := Z.nb_true hc67 | replace hc67 := Z.nb_false hc67)
                                  first
                                  | (exfalso; first | (cases hc67; done) | omega)
                                  | skip
                                    refine Z.j_seq ?_
                                    refine Z.j_region ?_
                                    refine Z.s_val (Z.pv_assign rfl) ?_
                                    refine Z.j_nil ?_
                                    refine Z.j_then ?_
                                    refine Z.j_ret ?_
                                    refine Z.j_then_ret ?_
                                    refine Z.j_blk_ret ?_
                                    refine Z.j_then_ret ?_
                                    refine Z.j_then_ret ?_
                                    refine Z.j_blk_ret ?_
                                    refine Z.j_then_ret ?_
                                    refine Z.j_doneM_ret (bs := []) .nil (Z.rv1 (Z.rv_tmp (t := 4) rfl)) ?_
                                    first | exact Z.post_of ⟨rfl, rfl⟩ (by repeat (first | with_reducible exact Z.Takes.nil | (apply Z.Takes.cons; (repeat (first | with_reducible exact Z.Take.here | apply Z.Take.there))))) (by repeat (first | with_reducible exact Z.Drop.nil | apply Z.Drop.cons)) | exact Z.post_of ⟨congrArg Value.bool (decide_eq_true rfl), rfl⟩ (by repeat (first | with_reducible exact Z.Takes.nil | (apply Z.Takes.cons; (repeat (first | with_reducible exact Z.Take.here | apply Z.Take.there))))) (by repeat (first | with_reducible exact Z.Drop.nil | apply Z.Drop.cons))
                                · try (with_reducible first | replace hc67 := of_decide_eq_true hc67 | replace hc67 := of_decide_eq_false hc67 | replace hc67 := Z.nd_true hc67 | replace hc67 := Z.nd_false hc67 | replace hc67 := Z.nn_true hc67 | replace hc67 := Z.nn_false hc67 | replace hc67 := Z.nb_true hc67 | replace hc67 := Z.nb_false hc67)
                                  first
                                  | (exfalso; first | (cases hc67; done) | omega)
                                  | skip
                                    refine Z.j_skip ?_
                                    refine Z.j_then ?_
                                    refine Z.j_region ?_
                                    refine Z.s_val (Z.pv_move rfl) ?_
                                    refine Z.s_val (Z.pv_fieldAddr (o' := 1) rfl Try.underlying38 rfl Try.sizeOf36 rfl) ?_
                                    refine Z.s_val (Z.pv_loadA rfl (by repeat (first | with_reducible exact Z.Take.here | apply Z.Take.there)) Try.isAgg36 Try.sizeOf36 (by rfl)) ?_
                                    refine Z.s_val (Z.pv_move rfl) ?_
                                    refine Z.s_mapUpdate (k := (⟨(os.getD i OpR.z).l, (os.getD i OpR.z).k⟩ : Cell)) (v := (rt os i).last + 1) rfl rfl rfl Try.underlying26 kCell (by repeat (first | with_reducible exact Z.Take.here | apply Z.Take.there)) ?_
                                    refine Z.j_nil ?_
                                    refine Z.j_blk ?_
                                    refine Z.j_then ?_
                                    refine Z.j_region ?_
                                    refine Z.s_val (Z.pv_add rfl rfl (by first | exact IntWalk.i64_in _ (by omega) | rfl)) ?_
                                    refine Z.s_val (Z.pv_move rfl) ?_
                                    refine Z.j_nil ?_
                                    refine Z.j_then ?_
                                    first
                                    | (refine Z.j_cast (A := RowP b5 ((rt os i).put (⟨(os.getD i OpR.z).l, (os.getD i OpR.z).k⟩ : Cell))) (B := RowP b5 (rt os (i + 1))) (by repeat (first | with_reducible exact Z.Take.here | apply Z.Take.there)) (by rw [rt_put (by first | exact .inl hg43 | exact .inr hc47)]) ?_; refine Z.j_cast (A := Z.MapP b32 Cell.e (Value.int .i64) (Z.mput (⟨(os.getD i OpR.z).l, (os.getD i OpR.z).k⟩ : Cell) ((rt os i).last + 1) (rt os i).ver)) (B := Z.MapP b32 Cell.e (Value.int .i64) (rt os (i + 1)).ver) (by repeat (first | with_reducible exact Z.Take.here | apply Z.Take.there)) (by rw [← rt_put (by first | exact .inl hg43 | exact .inr hc47)]; rfl) ?_)
                                    | (refine Z.j_cast (A := RowP b5 ((rt os i).drop (⟨(os.getD i OpR.z).l, (os.getD i OpR.z).k⟩ : Cell))) (B := RowP b5 (rt os (i + 1))) (by repeat (first | with_reducible exact Z.Take.here | apply Z.Take.there)) (by rw [rt_drop (not_or.2 ⟨hg43, hc47⟩) hc74]) ?_; refine Z.j_cast (A := Z.MapP b32 Cell.e (Value.int .i64) (Z.mdel (⟨(os.getD i OpR.z).l, (os.getD i OpR.z).k⟩ : Cell) (rt os i).ver)) (B := Z.MapP b32 Cell.e (Value.int .i64) (rt os (i + 1)).ver) (by repeat (first | with_reducible exact Z.Take.here | apply Z.Take.there)) (by rw [← rt_drop (not_or.2 ⟨hg43, hc47⟩) hc74]; rfl) ?_)
                                    | (refine Z.j_cast (A := RowP b5 (rt os i)) (B := RowP b5 (rt os (i + 1))) (by repeat (first | with_reducible exact Z.Take.here | apply Z.Take.there)) (by rw [rt_same (not_or.2 ⟨hg43, hc47⟩) hc74]) ?_; refine Z.j_cast (A := Z.MapP b32 Cell.e (Value.int .i64) (rt os i).ver) (B := Z.MapP b32 Cell.e (Value.int .i64) (rt os (i + 1)).ver) (by repeat (first | with_reducible exact Z.Take.here | apply Z.Take.there)) (by rw [← rt_same (not_or.2 ⟨hg43, hc47⟩) hc74]) ?_)
                                    (refine Z.j_nextG (X := { x : (Nat) // (x) ≤ n }) (EE := (fun (x : { x : (Nat) // (x) ≤ n }) => [(0, .slice p n cap), (1, v), (5, .pointer (some ⟨b5, 0, none⟩)), (6, .map (some b32)), (33, .slice p n cap), (34, .int .i64 n), (35, .int .i64 ((x.1) : Nat))])) (LL := (fun (x : { x : (Nat) // (x) ≤ n }) => [RowP b5 (rt os (x.1)), Z.MapP b32 Cell.e (Value.int .i64) (rt os (x.1)).ver])) (μ := (fun (x : { x : (Nat) // (x) ≤ n }) => n - (x.1))) (x := ⟨(i), hinv⟩) ⟨(i + 1), by omega⟩ ?_ ?_ ?_; (show n - (i + 1) < n - i; omega); (exact (by repeat (first | exact trivial | refine ⟨rfl, ?_⟩))); (exact Z.st_td (by repeat (first | with_reducible exact Z.Takes.nil | (apply Z.Takes.cons; (repeat (first | with_reducible exact Z.Take.here | apply Z.Take.there))))) (by repeat (first | with_reducible exact Z.Drop.nil | apply Z.Drop.cons))))
                          · skip
                            refine Z.s_val (Z.pv_extract rfl rfl) ?_
                            refine Z.j_nil ?_
                            refine Z.j_then ?_
                            refine Z.j_seq ?_
                            refine Z.j_cond rfl (fun hc54 => ?_) (fun hc54 => ?_)
                            · try (with_reducible first | replace hc54 := of_decide_eq_true hc54 | replace hc54 := of_decide_eq_false hc54 | replace hc54 := Z.nd_true hc54 | replace hc54 := Z.nd_false hc54 | replace hc54 := Z.nn_true hc54 | replace hc54 := Z.nn_false hc54 | replace hc54 := Z.nb_true hc54 | replace hc54 := Z.nb_false hc54)
                              first
                              | (exfalso; first | (cases hc54; done) | omega)
                              | skip
                                have hle53 := (hok.le _ _ (Z.mget_of_mem hok.nd (List.mem_of_getElem? hm53))).2
                                refine Z.j_skip ?_
                                refine Z.j_then ?_
                                refine Z.j_block ?_
                                refine Z.j_seq ?_
                                refine Z.j_region ?_
                                refine Z.s_val (Z.pv_entry rfl hk52 hm53 hy53 (by repeat (first | with_reducible exact Z.Take.here | apply Z.Take.there)) (by repeat (first | with_reducible exact Z.Take.here | apply Z.Take.there))) ?_
                                refine Z.s_val (Z.pv_extract rfl rfl) ?_
                                refine Z.s_val (Z.pv_assign rfl) ?_
                                refine Z.j_nil ?_
                                refine Z.j_then ?_
                                refine Z.j_seq ?_
                                refine Z.j_region ?_
                                refine Z.s_val (Z.pv_move rfl) ?_
                                refine Z.s_val (Z.pv_move rfl) ?_
                                refine Z.s_val (Z.pv_eql rfl rfl) ?_
                                refine Z.j_nil ?_
                                refine Z.j_then ?_
                                refine Z.j_cond rfl (fun hc59 => ?_) (fun hc59 => ?_)
                                · try (with_reducible first | replace hc59 := of_decide_eq_true hc59 | replace hc59 := of_decide_eq_false hc59 | replace hc59 := Z.nd_true hc59 | replace hc59 := Z.nd_false hc59 | replace hc59 := Z.nn_true hc59 | replace hc59 := Z.nn_false hc59 | replace hc59 := Z.nb_true hc59 | replace hc59 := Z.nb_false hc59)
                                  first
                                  | (exfalso; first | (cases hc59; done) | omega)
                                  | skip
                                    refine Z.j_seq ?_
                                    refine Z.j_region ?_
                                    refine Z.s_val (Z.pv_assign rfl) ?_
                                    refine Z.j_nil ?_
                                    refine Z.j_then ?_
                                    refine Z.j_ret ?_
                                    refine Z.j_blk_ret ?_
                                    refine Z.j_then_ret ?_
                                    refine Z.j_blk_ret ?_
                                    refine Z.j_then_ret ?_
                                    refine Z.j_blk_ret ?_
                                    refine Z.j_then_ret ?_
                                    refine Z.j_then_ret ?_
                                    refine Z.j_blk_ret ?_
                                    refine Z.j_then_ret ?_
                                    refine Z.j_doneM_ret (bs := []) .nil (Z.rv1 (Z.rv_tmp (t := 4) rfl)) ?_
                                    first | exact Z.post_of ⟨rfl, rfl⟩ (by repeat (first | with_reducible exact Z.Takes.nil | (apply Z.Takes.cons; (repeat (first | with_reducible exact Z.Take.here | apply Z.Take.there))))) (by repeat (first | with_reducible exact Z.Drop.nil | apply Z.Drop.cons)) | exact Z.post_of ⟨congrArg Value.bool (decide_eq_true rfl), rfl⟩ (by repeat (first | with_reducible exact Z.Takes.nil | (apply Z.Takes.cons; (repeat (first | with_reducible exact Z.Take.here | apply Z.Take.there))))) (by repeat (first | with_reducible exact Z.Drop.nil | apply Z.Drop.cons))
                                · try (with_reducible first | replace hc59 := of_decide_eq_true hc59 | replace hc59 := of_decide_eq_false hc59 | replace hc59 := Z.nd_true hc59 | replace hc59 := Z.nd_false hc59 | replace hc59 := Z.nn_true hc59 | replace hc59 := Z.nn_false hc59 | replace hc59 := Z.nb_true hc59 | replace hc59 := Z.nb_false hc59)
                                  first
                                  | (exfalso; first | (cases hc59; done) | omega)
                                  | skip
                                    refine Z.j_skip ?_
                                    refine Z.j_blk ?_
                                    refine Z.j_then ?_
                                    (refine Z.j_nextG (X := { x : (Array Nat) // True }) (EE := (fun (x : { x : (Array Nat) // True }) => [(0, .slice p n cap), (1, v), (5, .pointer (some ⟨b5, 0, none⟩)), (6, .map (some b32)), (33, .slice p n cap), (34, .int .i64 n), (35, .int .i64 (i : Nat)), (7, .int .i64 (i : Nat)), (8, .pointer (some ⟨b8, 0, none⟩)), (9, .int .i64 ((rt os i).last + 1)), (52, .pointer (some ⟨r52, 0, none⟩))])) (LL := (fun (x : { x : (Array Nat) // True }) => [Z.It r52 b32 clock52 (x.1), Z.MapB b32 Cell.e (Value.int .i64) (rt os i).ver bs52 clock52, RowP b5 ((rt os i).put (⟨(os.getD i OpR.z).l, (os.getD i OpR.z).k⟩ : Cell)), Z.cl b8 38 [.int .i64 (os.getD i OpR.z).kd, .int .i64 (os.getD i OpR.z).l, .int .u32 (os.getD i OpR.z).k]])) (μ := (fun (x : { x : (Array Nat) // True }) => Z.mleft bs52 (x.1))) (x := ⟨(seen), hinv2⟩) ⟨(seen.push y53), trivial⟩ ?_ ?_ ?_; (show Z.mleft bs52 (seen.push y53) < Z.mleft bs52 seen; omega); (exact (by repeat (first | exact trivial | refine ⟨rfl, ?_⟩))); (exact Z.st_td (by repeat (first | with_reducible exact Z.Takes.nil | (apply Z.Takes.cons; (repeat (first | with_reducible exact Z.Take.here | apply Z.Take.there))))) (by repeat (first | with_reducible exact Z.Drop.nil | apply Z.Drop.cons))))
                            · exfalso; first | (cases hc54; done) | (simp at hc54; done) | (simp at hc54; omega) | (replace hc54 := of_decide_eq_true hc54; contradiction) | (replace hc54 := of_decide_eq_false hc54; contradiction)
                      · try (with_reducible first | replace hc47 := of_decide_eq_true hc47 | replace hc47 := of_decide_eq_false hc47 | replace hc47 := Z.nd_true hc47 | replace hc47 := Z.nd_false hc47 | replace hc47 := Z.nn_true hc47 | replace hc47 := Z.nn_false hc47 | replace hc47 := Z.nb_true hc47 | replace hc47 := Z.nb_false hc47)
                        first
                        | (exfalso; first | (cases hc47; done) | omega)
                        | skip
                          refine Z.j_seq ?_
                          refine Z.j_region ?_
                          refine Z.s_val (Z.pv_fieldAddr (o' := 0) rfl Try.underlying38 rfl Try.sizeOf3 rfl) ?_
                          refine Z.s_val (Z.pv_load1 rfl (by repeat (first | with_reducible exact Z.Take.here | apply Z.Take.there)) Try.isAgg3 (by rfl)) ?_
                          refine Z.s_val (Z.pv_eql rfl rfl) ?_
                          refine Z.j_nil ?_
                          refine Z.j_then ?_
                          refine Z.j_cond rfl (fun hc74 => ?_) (fun hc74 => ?_)
                          · try (with_reducible first | replace hc74 := of_decide_eq_true hc74 | replace hc74 := of_decide_eq_false hc74 | replace hc74 := Z.nd_true hc74 | replace hc74 := Z.nd_false hc74 | replace hc74 := Z.nn_true hc74 | replace hc74 := Z.nn_false hc74 | replace hc74 := Z.nb_true hc74 | replace hc74 := Z.nb_false hc74)
                            first
                            | (exfalso; first | (cases hc74; done) | omega)
                            | skip
                              refine Z.j_seq ?_
                              refine Z.j_region ?_
                              refine Z.s_val (Z.pv_move rfl) ?_
                              refine Z.s_val (Z.pv_fieldAddr (o' := 1) rfl Try.underlying38 rfl Try.sizeOf36 rfl) ?_
                              refine Z.s_val (Z.pv_loadA rfl (by repeat (first | with_reducible exact Z.Take.here | apply Z.Take.there)) Try.isAgg36 Try.sizeOf36 (by rfl)) ?_
                              refine Z.s_val (Z.pv_lookupOkZ (k := (⟨(os.getD i OpR.z).l, (os.getD i OpR.z).k⟩ : Cell)) (venc := Value.int .i64) (m := (rt os i).ver) 0 rfl rfl Try.underlying26 kCell Try.zeroValue3 (by repeat (first | with_reducible exact Z.Take.here | apply Z.Take.there))) ?_
                              refine Z.s_val (Z.pv_move rfl) ?_
                              refine Z.s_val (Z.pv_extract rfl rfl) ?_
                              refine Z.s_val (Z.pv_extract rfl rfl) ?_
                              refine Z.s_val (Z.pv_assign rfl) ?_
                              refine Z.s_val (Z.pv_assign rfl) ?_
                              refine Z.j_nil ?_
                              refine Z.j_then ?_
                              refine Z.j_seq ?_
                              refine Z.j_seq ?_
                              refine Z.j_region ?_
                              refine Z.s_val (Z.pv_fieldAddr (o' := 1) rfl Try.underlying38 rfl Try.sizeOf36 rfl) ?_
                              refine Z.s_val (Z.pv_loadA rfl (by repeat (first | with_reducible exact Z.Take.here | apply Z.Take.there)) Try.isAgg36 Try.sizeOf36 (by rfl)) ?_
                              refine Z.s_callD rfl rfl rfl isFn13 (by repeat (first | with_reducible exact Z.Takes.nil | (apply Z.Takes.cons; (repeat (first | with_reducible exact Z.Take.here | apply Z.Take.there))))) (by repeat (first | exact Z.App.nil | apply Z.App.cons)) (drop_spec _ _ (rt os i) _ _) ?_
                              refine Z.s_val (Z.pv_move rfl) ?_
                              refine Z.s_val (Z.pv_neqb rfl rfl Try.underlying4) ?_
                              refine Z.j_nil ?_
                              refine Z.j_then ?_
                              refine Z.j_cond rfl (fun hc86 => ?_) (fun hc86 => ?_)
                              · try (with_reducible first | replace hc86 := of_decide_eq_true hc86 | replace hc86 := of_decide_eq_false hc86 | replace hc86 := Z.nd_true hc86 | replace hc86 := Z.nd_false hc86 | replace hc86 := Z.nn_true hc86 | replace hc86 := Z.nn_false hc86 | replace hc86 := Z.nb_true hc86 | replace hc86 := Z.nb_false hc86)
                                exact absurd rfl hc86
                              · try (with_reducible first | replace hc86 := of_decide_eq_true hc86 | replace hc86 := of_decide_eq_false hc86 | replace hc86 := Z.nd_true hc86 | replace hc86 := Z.nd_false hc86 | replace hc86 := Z.nn_true hc86 | replace hc86 := Z.nn_false hc86 | replace hc86 := Z.nb_true hc86 | replace hc86 := Z.nb_false hc86)
                                first
                                | (exfalso; first | (cases hc86; done) | omega)
                                | skip
                                  refine Z.j_skip ?_
                                  refine Z.j_then ?_
                                  refine Z.j_region ?_
                                  refine Z.s_val (Z.pv_move rfl) ?_
                                  refine Z.s_val (Z.pv_fieldAddr (o' := 1) rfl Try.underlying38 rfl Try.sizeOf36 rfl) ?_
                                  refine Z.s_val (Z.pv_loadA rfl (by repeat (first | with_reducible exact Z.Take.here | apply Z.Take.there)) Try.isAgg36 Try.sizeOf36 (by rfl)) ?_
                                  refine Z.s_delete0 (k := (⟨(os.getD i OpR.z).l, (os.getD i OpR.z).k⟩ : Cell)) rfl rfl Try.underlying26 kCell (by repeat (first | with_reducible exact Z.Take.here | apply Z.Take.there)) ?_
                                  refine Z.j_nil ?_
                                  refine Z.j_blk ?_
                                  refine Z.j_then ?_
                                  refine Z.j_region ?_
                                  refine Z.s_val (Z.pv_add rfl rfl (by first | exact IntWalk.i64_in _ (by omega) | rfl)) ?_
                                  refine Z.s_val (Z.pv_move rfl) ?_
                                  refine Z.j_nil ?_
                                  refine Z.j_then ?_
                                  first
                                  | (refine Z.j_cast (A := RowP b5 ((rt os i).put (⟨(os.getD i OpR.z).l, (os.getD i OpR.z).k⟩ : Cell))) (B := RowP b5 (rt os (i + 1))) (by repeat (first | with_reducible exact Z.Take.here | apply Z.Take.there)) (by rw [rt_put (by first | exact .inl hg43 | exact .inr hc47)]) ?_; refine Z.j_cast (A := Z.MapP b32 Cell.e (Value.int .i64) (Z.mput (⟨(os.getD i OpR.z).l, (os.getD i OpR.z).k⟩ : Cell) ((rt os i).last + 1) (rt os i).ver)) (B := Z.MapP b32 Cell.e (Value.int .i64) (rt os (i + 1)).ver) (by repeat (first | with_reducible exact Z.Take.here | apply Z.Take.there)) (by rw [← rt_put (by first | exact .inl hg43 | exact .inr hc47)]; rfl) ?_)
                                  | (refine Z.j_cast (A := RowP b5 ((rt os i).drop (⟨(os.getD i OpR.z).l, (os.getD i OpR.z).k⟩ : Cell))) (B := RowP b5 (rt os (i + 1))) (by repeat (first | with_reducible exact Z.Take.here | apply Z.Take.there)) (by rw [rt_drop (not_or.2 ⟨hg43, hc47⟩) hc74]) ?_; refine Z.j_cast (A := Z.MapP b32 Cell.e (Value.int .i64) (Z.mdel (⟨(os.getD i OpR.z).l, (os.getD i OpR.z).k⟩ : Cell) (rt os i).ver)) (B := Z.MapP b32 Cell.e (Value.int .i64) (rt os (i + 1)).ver) (by repeat (first | with_reducible exact Z.Take.here | apply Z.Take.there)) (by rw [← rt_drop (not_or.2 ⟨hg43, hc47⟩) hc74]; rfl) ?_)
                                  | (refine Z.j_cast (A := RowP b5 (rt os i)) (B := RowP b5 (rt os (i + 1))) (by repeat (first | with_reducible exact Z.Take.here | apply Z.Take.there)) (by rw [rt_same (not_or.2 ⟨hg43, hc47⟩) hc74]) ?_; refine Z.j_cast (A := Z.MapP b32 Cell.e (Value.int .i64) (rt os i).ver) (B := Z.MapP b32 Cell.e (Value.int .i64) (rt os (i + 1)).ver) (by repeat (first | with_reducible exact Z.Take.here | apply Z.Take.there)) (by rw [← rt_same (not_or.2 ⟨hg43, hc47⟩) hc74]) ?_)
                                  (refine Z.j_nextG (X := { x : (Nat) // (x) ≤ n }) (EE := (fun (x : { x : (Nat) // (x) ≤ n }) => [(0, .slice p n cap), (1, v), (5, .pointer (some ⟨b5, 0, none⟩)), (6, .map (some b32)), (33, .slice p n cap), (34, .int .i64 n), (35, .int .i64 ((x.1) : Nat))])) (LL := (fun (x : { x : (Nat) // (x) ≤ n }) => [RowP b5 (rt os (x.1)), Z.MapP b32 Cell.e (Value.int .i64) (rt os (x.1)).ver])) (μ := (fun (x : { x : (Nat) // (x) ≤ n }) => n - (x.1))) (x := ⟨(i), hinv⟩) ⟨(i + 1), by omega⟩ ?_ ?_ ?_; (show n - (i + 1) < n - i; omega); (exact (by repeat (first | exact trivial | refine ⟨rfl, ?_⟩))); (exact Z.st_td (by repeat (first | with_reducible exact Z.Takes.nil | (apply Z.Takes.cons; (repeat (first | with_reducible exact Z.Take.here | apply Z.Take.there))))) (by repeat (first | with_reducible exact Z.Drop.nil | apply Z.Drop.cons))))
                          · try (with_reducible first | replace hc74 := of_decide_eq_true hc74 | replace hc74 := of_decide_eq_false hc74 | replace hc74 := Z.nd_true hc74 | replace hc74 := Z.nd_false hc74 | replace hc74 := Z.nn_true hc74 | replace hc74 := Z.nn_false hc74 | replace hc74 := Z.nb_true hc74 | replace hc74 := Z.nb_false hc74)
                            first
                            | (exfalso; first | (cases hc74; done) | omega)
                            | skip
                              refine Z.j_skip ?_
                              refine Z.j_blk ?_
                              refine Z.j_then ?_
                              refine Z.j_region ?_
                              refine Z.s_val (Z.pv_add rfl rfl (by first | exact IntWalk.i64_in _ (by omega) | rfl)) ?_
                              refine Z.s_val (Z.pv_move rfl) ?_
                              refine Z.j_nil ?_
                              refine Z.j_then ?_
                              first
                              | (refine Z.j_cast (A := RowP b5 ((rt os i).put (⟨(os.getD i OpR.z).l, (os.getD i OpR.z).k⟩ : Cell))) (B := RowP b5 (rt os (i + 1))) (by repeat (first | with_reducible exact Z.Take.here | apply Z.Take.there)) (by rw [rt_put (by first | exact .inl hg43 | exact .inr hc47)]) ?_; refine Z.j_cast (A := Z.MapP b32 Cell.e (Value.int .i64) (Z.mput (⟨(os.getD i OpR.z).l, (os.getD i OpR.z).k⟩ : Cell) ((rt os i).last + 1) (rt os i).ver)) (B := Z.MapP b32 Cell.e (Value.int .i64) (rt os (i + 1)).ver) (by repeat (first | with_reducible exact Z.Take.here | apply Z.Take.there)) (by rw [← rt_put (by first | exact .inl hg43 | exact .inr hc47)]; rfl) ?_)
                              | (refine Z.j_cast (A := RowP b5 ((rt os i).drop (⟨(os.getD i OpR.z).l, (os.getD i OpR.z).k⟩ : Cell))) (B := RowP b5 (rt os (i + 1))) (by repeat (first | with_reducible exact Z.Take.here | apply Z.Take.there)) (by rw [rt_drop (not_or.2 ⟨hg43, hc47⟩) hc74]) ?_; refine Z.j_cast (A := Z.MapP b32 Cell.e (Value.int .i64) (Z.mdel (⟨(os.getD i OpR.z).l, (os.getD i OpR.z).k⟩ : Cell) (rt os i).ver)) (B := Z.MapP b32 Cell.e (Value.int .i64) (rt os (i + 1)).ver) (by repeat (first | with_reducible exact Z.Take.here | apply Z.Take.there)) (by rw [← rt_drop (not_or.2 ⟨hg43, hc47⟩) hc74]; rfl) ?_)
                              | (refine Z.j_cast (A := RowP b5 (rt os i)) (B := RowP b5 (rt os (i + 1))) (by repeat (first | with_reducible exact Z.Take.here | apply Z.Take.there)) (by rw [rt_same (not_or.2 ⟨hg43, hc47⟩) hc74]) ?_; refine Z.j_cast (A := Z.MapP b32 Cell.e (Value.int .i64) (rt os i).ver) (B := Z.MapP b32 Cell.e (Value.int .i64) (rt os (i + 1)).ver) (by repeat (first | with_reducible exact Z.Take.here | apply Z.Take.there)) (by rw [← rt_same (not_or.2 ⟨hg43, hc47⟩) hc74]) ?_)
                              (refine Z.j_nextG (X := { x : (Nat) // (x) ≤ n }) (EE := (fun (x : { x : (Nat) // (x) ≤ n }) => [(0, .slice p n cap), (1, v), (5, .pointer (some ⟨b5, 0, none⟩)), (6, .map (some b32)), (33, .slice p n cap), (34, .int .i64 n), (35, .int .i64 ((x.1) : Nat))])) (LL := (fun (x : { x : (Nat) // (x) ≤ n }) => [RowP b5 (rt os (x.1)), Z.MapP b32 Cell.e (Value.int .i64) (rt os (x.1)).ver])) (μ := (fun (x : { x : (Nat) // (x) ≤ n }) => n - (x.1))) (x := ⟨(i), hinv⟩) ⟨(i + 1), by omega⟩ ?_ ?_ ?_; (show n - (i + 1) < n - i; omega); (exact (by repeat (first | exact trivial | refine ⟨rfl, ?_⟩))); (exact Z.st_td (by repeat (first | with_reducible exact Z.Takes.nil | (apply Z.Takes.cons; (repeat (first | with_reducible exact Z.Take.here | apply Z.Take.there))))) (by repeat (first | with_reducible exact Z.Drop.nil | apply Z.Drop.cons))))
                  · try (with_reducible first | replace hg43 := of_decide_eq_true hg43 | replace hg43 := of_decide_eq_false hg43 | replace hg43 := Z.nd_true hg43 | replace hg43 := Z.nd_false hg43 | replace hg43 := Z.nn_true hg43 | replace hg43 := Z.nn_false hg43 | replace hg43 := Z.nb_true hg43 | replace hg43 := Z.nb_false hg43)
                    first
                    | (exfalso; first | (cases hg43; done) | omega)
                    | skip
                      refine Z.s_val (Z.pv_fieldAddr (o' := 0) rfl Try.underlying38 rfl Try.sizeOf3 rfl) ?_
                      refine Z.s_val (Z.pv_load1 rfl (by repeat (first | with_reducible exact Z.Take.here | apply Z.Take.there)) Try.isAgg3 (by rfl)) ?_
                      refine Z.s_val (Z.pv_eql rfl rfl) ?_
                      refine Z.s_val (Z.pv_pick rfl rfl) ?_
                      refine Z.j_nil ?_
                      refine Z.j_then ?_
                      refine Z.j_cond rfl (fun hc47 => ?_) (fun hc47 => ?_)
                      · try (with_reducible first | replace hc47 := of_decide_eq_true hc47 | replace hc47 := of_decide_eq_false hc47 | replace hc47 := Z.nd_true hc47 | replace hc47 := Z.nd_false hc47 | replace hc47 := Z.nn_true hc47 | replace hc47 := Z.nn_false hc47 | replace hc47 := Z.nb_true hc47 | replace hc47 := Z.nb_false hc47)
                        first
                        | (exfalso; first | (cases hc47; done) | omega)
                        | skip
                          refine Z.j_seq ?_
                          obtain ⟨hok, hla, hKB⟩ := rt_ok hos i (by omega)
                          have hl0 := hok.l0
                          refine Z.j_region ?_
                          refine Z.s_val (Z.pv_fieldAddr (o' := 1) rfl Try.underlying38 rfl Try.sizeOf36 rfl) ?_
                          refine Z.s_val (Z.pv_loadA rfl (by repeat (first | with_reducible exact Z.Take.here | apply Z.Take.there)) Try.isAgg36 Try.sizeOf36 (by rfl)) ?_
                          refine Z.s_callD rfl rfl rfl isFn11 (by repeat (first | with_reducible exact Z.Takes.nil | (apply Z.Takes.cons; (repeat (first | with_reducible exact Z.Take.here | apply Z.Take.there))))) (by repeat (first | exact Z.App.nil | apply Z.App.cons)) (put_spec _ _ (rt os i) _ _ hok.l0 hok.l1) ?_
                          refine Z.s_val (Z.pv_assign rfl) ?_
                          refine Z.j_nil ?_
                          refine Z.j_then ?_
                          refine Z.j_seq ?_
                          refine Z.j_seq ?_
                          refine Z.j_region ?_
                          refine Z.s_val (Z.pv_move rfl) ?_
                          refine Z.s_range rfl Try.underlying26 (by repeat (first | with_reducible exact Z.Take.here | apply Z.Take.there)) (fun r52 bs52 clock52 hk52 => ?_)
                          refine Z.j_nil ?_
                          refine Z.j_then ?_
                          refine Z.j_block ?_
                          refine Z.j_initF (E' := [(0, .slice p n cap), (1, v), (5, .pointer (some ⟨b5, 0, none⟩)), (6, .map (some b32)), (33, .slice p n cap), (34, .int .i64 n), (35, .int .i64 (i : Nat)), (7, .int .i64 (i : Nat)), (8, .pointer (some ⟨b8, 0, none⟩)), (9, .int .i64 ((rt os i).last + 1)), (52, .pointer (some ⟨r52, 0, none⟩))]) (As := [Z.It r52 b32 clock52 (#[]), Z.MapB b32 Cell.e (Value.int .i64) (rt os i).ver bs52 clock52, RowP b5 ((rt os i).put (⟨(os.getD i OpR.z).l, (os.getD i OpR.z).k⟩ : Cell)), Z.cl b8 38 [.int .i64 (os.getD i OpR.z).kd, .int .i64 (os.getD i OpR.z).l, .int .u32 (os.getD i OpR.z).k]]) (Fr := Fr) (by repeat (first | exact trivial | refine ⟨rfl, ?_⟩)) (by repeat (first | with_reducible exact Z.Takes.nil | (apply Z.Takes.cons; (repeat (first | with_reducible exact Z.Take.here | apply Z.Take.there))))) (by repeat (first | with_reducible exact Z.Drop.nil | apply Z.Drop.cons)) ?_
                          refine Z.j_loop (X := { x : (Array Nat) // True }) (fun (x : { x : (Array Nat) // True }) => [(0, .slice p n cap), (1, v), (5, .pointer (some ⟨b5, 0, none⟩)), (6, .map (some b32)), (33, .slice p n cap), (34, .int .i64 n), (35, .int .i64 (i : Nat)), (7, .int .i64 (i : Nat)), (8, .pointer (some ⟨b8, 0, none⟩)), (9, .int .i64 ((rt os i).last + 1)), (52, .pointer (some ⟨r52, 0, none⟩))]) (fun x => (fun (x : { x : (Array Nat) // True }) => [Z.It r52 b32 clock52 (x.1), Z.MapB b32 Cell.e (Value.int .i64) (rt os i).ver bs52 clock52, RowP b5 ((rt os i).put (⟨(os.getD i OpR.z).l, (os.getD i OpR.z).k⟩ : Cell)), Z.cl b8 38 [.int .i64 (os.getD i OpR.z).kd, .int .i64 (os.getD i OpR.z).l, .int .u32 (os.getD i OpR.z).k]]) x ++ Fr) (fun (x : { x : (Array Nat) // True }) => Z.mleft bs52 (x.1)) ⟨(#[]), trivial⟩ (fun x => ?_)
                          obtain ⟨seen, hinv2⟩ := x
                          have hinv2' : True := hinv2
                          obtain _ := hinv2'
                          show Z.J _ _ _ ([(0, .slice p n cap), (1, v), (5, .pointer (some ⟨b5, 0, none⟩)), (6, .map (some b32)), (33, .slice p n cap), (34, .int .i64 n), (35, .int .i64 (i : Nat)), (7, .int .i64 (i : Nat)), (8, .pointer (some ⟨b8, 0, none⟩)), (9, .int .i64 ((rt os i).last + 1)), (52, .pointer (some ⟨r52, 0, none⟩))]) ([Z.It r52 b32 clock52 seen, Z.MapB b32 Cell.e (Value.int .i64) (rt os i).ver bs52 clock52, RowP b5 ((rt os i).put (⟨(os.getD i OpR.z).l, (os.getD i OpR.z).k⟩ : Cell)), Z.cl b8 38 [.int .i64 (os.getD i OpR.z).kd, .int .i64 (os.getD i OpR.z).l, .int .u32 (os.getD i OpR.z).k]] ++ Fr) _
                          refine Z.j_app (by repeat (first | exact Z.App.nil | apply Z.App.cons)) ?_
                          refine Z.j_seq ?_
                          refine Z.j_region ?_
                          refine Z.s_next rfl hk52 (by repeat (first | with_reducible exact Z.Take.here | apply Z.Take.there)) (fun _ => (by repeat (first | with_reducible exact Z.Upd.here | apply Z.Upd.there))) (fun hall53 => ?_) (fun ix53 ky53 vl53 y53 hm53 hy53 hns53 hlt53 => ?_)
                          · skip
                            refine Z.s_val (Z.pv_extract rfl rfl) ?_
                            refine Z.j_nil ?_
                            refine Z.j_then ?_
                            refine Z.j_seq ?_
                            refine Z.j_cond rfl (fun hc54 => ?_) (fun hc54 => ?_)
                            · exfalso; first | (cases hc54; done) | (simp at hc54; done) | (simp at hc54; omega) | (replace hc54 := of_decide_eq_true hc54; contradiction) | (replace hc54 := of_decide_eq_false hc54; contradiction)
                            · try (with_reducible first | replace hc54 := of_decide_eq_true hc54 | replace hc54 := of_decide_eq_false hc54 | replace hc54 := Z.nd_true hc54 | replace hc54 := Z.nd_false hc54 | replace hc54 := Z.nn_true hc54 | replace hc54 := Z.nn_false hc54 | replace hc54 := Z.nb_true hc54 | replace hc54 := Z.nb_false hc54)
                              first
                              | (exfalso; first | (cases hc54; done) | omega)
                              | skip
                                refine Z.j_exit ?_
                                refine Z.j_then_exit ?_
                                refine Z.j_then_exit ?_
                                refine Z.j_blk_here rfl ?_
                                refine Z.j_then ?_
                                refine Z.j_seq ?_
                                refine Z.j_seq ?_
                                refine Z.J.mapP_close (by repeat (first | with_reducible exact Z.Take.here | apply Z.Take.there)) hk52 ?_
                                refine Z.j_region ?_
                                refine Z.s_val (Z.pv_move rfl) ?_
                                refine Z.s_val (Z.pv_lss rfl rfl) ?_
                                refine Z.s_val (Z.pv_move rfl) ?_
                                refine Z.s_is 62 rfl (show _ = Value.bool false from (congrArg Value.bool (decide_eq_false (by omega)))) ?_
                                refine Z.s_val (Z.pv_move rfl) ?_
                                refine Z.s_val (Z.pv_move rfl) ?_
                                refine Z.s_val (Z.pv_add rfl rfl (by first | exact IntWalk.i64_in _ (by omega) | rfl)) ?_
                                refine Z.s_val (Z.pv_gtr rfl rfl) ?_
                                refine Z.s_val (Z.pv_pick rfl rfl) ?_
                                refine Z.j_nil ?_
                                refine Z.j_then ?_
                                refine Z.j_cond rfl (fun hc67 => ?_) (fun hc67 => ?_)
                                · try (with_reducible first | replace hc67 := of_decide_eq_true hc67 | replace hc67 := of_decide_eq_false hc67 | replace hc67 := Z.nd_true hc67 | replace hc67 := Z.nd_false hc67 | replace hc67 := Z.nn_true hc67 | replace hc67 := Z.nn_false hc67 | replace hc67 := Z.nb_true hc67 | replace hc67 := Z.nb_false hc67)
                                  first
                                  | (exfalso; first | (cases hc67; done) | omega)
                                  | skip
                                    refine Z.j_seq ?_
                                    refine Z.j_region ?_
                                    refine Z.s_val (Z.pv_assign rfl) ?_
                                    refine Z.j_nil ?_
                                    refine Z.j_then ?_
                                    refine Z.j_ret ?_
                                    refine Z.j_then_ret ?_
                                    refine Z.j_blk_ret ?_
                                    refine Z.j_then_ret ?_
                                    refine Z.j_then_ret ?_
                                    refine Z.j_blk_ret ?_
                                    refine Z.j_then_ret ?_
                                    refine Z.j_doneM_ret (bs := []) .nil (Z.rv1 (Z.rv_tmp (t := 4) rfl)) ?_
                                    first | exact Z.post_of ⟨rfl, rfl⟩ (by repeat (first | with_reducible exact Z.Takes.nil | (apply Z.Takes.cons; (repeat (first | with_reducible exact Z.Take.here | apply Z.Take.there))))) (by repeat (first | with_reducible exact Z.Drop.nil | apply Z.Drop.cons)) | exact Z.post_of ⟨congrArg Value.bool (decide_eq_true rfl), rfl⟩ (by repeat (first | with_reducible exact Z.Takes.nil | (apply Z.Takes.cons; (repeat (first | with_reducible exact Z.Take.here | apply Z.Take.there))))) (by repeat (first | with_reducible exact Z.Drop.nil | apply Z.Drop.cons))
                                · try (with_reducible first | replace hc67 := of_decide_eq_true hc67 | replace hc67 := of_decide_eq_false hc67 | replace hc67 := Z.nd_true hc67 | replace hc67 := Z.nd_false hc67 | replace hc67 := Z.nn_true hc67 | replace hc67 := Z.nn_false hc67 | replace hc67 := Z.nb_true hc67 | replace hc67 := Z.nb_false hc67)
                                  first
                                  | (exfalso; first | (cases hc67; done) | omega)
                                  | skip
                                    refine Z.j_skip ?_
                                    refine Z.j_then ?_
                                    refine Z.j_region ?_
                                    refine Z.s_val (Z.pv_move rfl) ?_
                                    refine Z.s_val (Z.pv_fieldAddr (o' := 1) rfl Try.underlying38 rfl Try.sizeOf36 rfl) ?_
                                    refine Z.s_val (Z.pv_loadA rfl (by repeat (first | with_reducible exact Z.Take.here | apply Z.Take.there)) Try.isAgg36 Try.sizeOf36 (by rfl)) ?_
                                    refine Z.s_val (Z.pv_move rfl) ?_
                                    refine Z.s_mapUpdate (k := (⟨(os.getD i OpR.z).l, (os.getD i OpR.z).k⟩ : Cell)) (v := (rt os i).last + 1) rfl rfl rfl Try.underlying26 kCell (by repeat (first | with_reducible exact Z.Take.here | apply Z.Take.there)) ?_
                                    refine Z.j_nil ?_
                                    refine Z.j_blk ?_
                                    refine Z.j_then ?_
                                    refine Z.j_region ?_
                                    refine Z.s_val (Z.pv_add rfl rfl (by first | exact IntWalk.i64_in _ (by omega) | rfl)) ?_
                                    refine Z.s_val (Z.pv_move rfl) ?_
                                    refine Z.j_nil ?_
                                    refine Z.j_then ?_
                                    first
                                    | (refine Z.j_cast (A := RowP b5 ((rt os i).put (⟨(os.getD i OpR.z).l, (os.getD i OpR.z).k⟩ : Cell))) (B := RowP b5 (rt os (i + 1))) (by repeat (first | with_reducible exact Z.Take.here | apply Z.Take.there)) (by rw [rt_put (by first | exact .inl hg43 | exact .inr hc47)]) ?_; refine Z.j_cast (A := Z.MapP b32 Cell.e (Value.int .i64) (Z.mput (⟨(os.getD i OpR.z).l, (os.getD i OpR.z).k⟩ : Cell) ((rt os i).last + 1) (rt os i).ver)) (B := Z.MapP b32 Cell.e (Value.int .i64) (rt os (i + 1)).ver) (by repeat (first | with_reducible exact Z.Take.here | apply Z.Take.there)) (by rw [← rt_put (by first | exact .inl hg43 | exact .inr hc47)]; rfl) ?_)
                                    | (refine Z.j_cast (A := RowP b5 ((rt os i).drop (⟨(os.getD i OpR.z).l, (os.getD i OpR.z).k⟩ : Cell))) (B := RowP b5 (rt os (i + 1))) (by repeat (first | with_reducible exact Z.Take.here | apply Z.Take.there)) (by rw [rt_drop (not_or.2 ⟨hg43, hc47⟩) hc74]) ?_; refine Z.j_cast (A := Z.MapP b32 Cell.e (Value.int .i64) (Z.mdel (⟨(os.getD i OpR.z).l, (os.getD i OpR.z).k⟩ : Cell) (rt os i).ver)) (B := Z.MapP b32 Cell.e (Value.int .i64) (rt os (i + 1)).ver) (by repeat (first | with_reducible exact Z.Take.here | apply Z.Take.there)) (by rw [← rt_drop (not_or.2 ⟨hg43, hc47⟩) hc74]; rfl) ?_)
                                    | (refine Z.j_cast (A := RowP b5 (rt os i)) (B := RowP b5 (rt os (i + 1))) (by repeat (first | with_reducible exact Z.Take.here | apply Z.Take.there)) (by rw [rt_same (not_or.2 ⟨hg43, hc47⟩) hc74]) ?_; refine Z.j_cast (A := Z.MapP b32 Cell.e (Value.int .i64) (rt os i).ver) (B := Z.MapP b32 Cell.e (Value.int .i64) (rt os (i + 1)).ver) (by repeat (first | with_reducible exact Z.Take.here | apply Z.Take.there)) (by rw [← rt_same (not_or.2 ⟨hg43, hc47⟩) hc74]) ?_)
                                    (refine Z.j_nextG (X := { x : (Nat) // (x) ≤ n }) (EE := (fun (x : { x : (Nat) // (x) ≤ n }) => [(0, .slice p n cap), (1, v), (5, .pointer (some ⟨b5, 0, none⟩)), (6, .map (some b32)), (33, .slice p n cap), (34, .int .i64 n), (35, .int .i64 ((x.1) : Nat))])) (LL := (fun (x : { x : (Nat) // (x) ≤ n }) => [RowP b5 (rt os (x.1)), Z.MapP b32 Cell.e (Value.int .i64) (rt os (x.1)).ver])) (μ := (fun (x : { x : (Nat) // (x) ≤ n }) => n - (x.1))) (x := ⟨(i), hinv⟩) ⟨(i + 1), by omega⟩ ?_ ?_ ?_; (show n - (i + 1) < n - i; omega); (exact (by repeat (first | exact trivial | refine ⟨rfl, ?_⟩))); (exact Z.st_td (by repeat (first | with_reducible exact Z.Takes.nil | (apply Z.Takes.cons; (repeat (first | with_reducible exact Z.Take.here | apply Z.Take.there))))) (by repeat (first | with_reducible exact Z.Drop.nil | apply Z.Drop.cons))))
                          · skip
                            refine Z.s_val (Z.pv_extract rfl rfl) ?_
                            refine Z.j_nil ?_
                            refine Z.j_then ?_
                            refine Z.j_seq ?_
                            refine Z.j_cond rfl (fun hc54 => ?_) (fun hc54 => ?_)
                            · try (with_reducible first | replace hc54 := of_decide_eq_true hc54 | replace hc54 := of_decide_eq_false hc54 | replace hc54 := Z.nd_true hc54 | replace hc54 := Z.nd_false hc54 | replace hc54 := Z.nn_true hc54 | replace hc54 := Z.nn_false hc54 | replace hc54 := Z.nb_true hc54 | replace hc54 := Z.nb_false hc54)
                              first
                              | (exfalso; first | (cases hc54; done) | omega)
                              | skip
                                have hle53 := (hok.le _ _ (Z.mget_of_mem hok.nd (List.mem_of_getElem? hm53))).2
                                refine Z.j_skip ?_
                                refine Z.j_then ?_
                                refine Z.j_block ?_
                                refine Z.j_seq ?_
                                refine Z.j_region ?_
                                refine Z.s_val (Z.pv_entry rfl hk52 hm53 hy53 (by repeat (first | with_reducible exact Z.Take.here | apply Z.Take.there)) (by repeat (first | with_reducible exact Z.Take.here | apply Z.Take.there))) ?_
                                refine Z.s_val (Z.pv_extract rfl rfl) ?_
                                refine Z.s_val (Z.pv_assign rfl) ?_
                                refine Z.j_nil ?_
                                refine Z.j_then ?_
                                refine Z.j_seq ?_
                                refine Z.j_region ?_
                                refine Z.s_val (Z.pv_move rfl) ?_
                                refine Z.s_val (Z.pv_move rfl) ?_
                                refine Z.s_val (Z.pv_eql rfl rfl) ?_
                                refine Z.j_nil ?_
                                refine Z.j_then ?_
                                refine Z.j_cond rfl (fun hc59 => ?_) (fun hc59 => ?_)
                                · try (with_reducible first | replace hc59 := of_decide_eq_true hc59 | replace hc59 := of_decide_eq_false hc59 | replace hc59 := Z.nd_true hc59 | replace hc59 := Z.nd_false hc59 | replace hc59 := Z.nn_true hc59 | replace hc59 := Z.nn_false hc59 | replace hc59 := Z.nb_true hc59 | replace hc59 := Z.nb_false hc59)
                                  first
                                  | (exfalso; first | (cases hc59; done) | omega)
                                  | skip
                                    refine Z.j_seq ?_
                                    refine Z.j_region ?_
                                    refine Z.s_val (Z.pv_assign rfl) ?_
                                    refine Z.j_nil ?_
                                    refine Z.j_then ?_
                                    refine Z.j_ret ?_
                                    refine Z.j_blk_ret ?_
                                    refine Z.j_then_ret ?_
                                    refine Z.j_blk_ret ?_
                                    refine Z.j_then_ret ?_
                                    refine Z.j_blk_ret ?_
                                    refine Z.j_then_ret ?_
                                    refine Z.j_then_ret ?_
                                    refine Z.j_blk_ret ?_
                                    refine Z.j_then_ret ?_
                                    refine Z.j_doneM_ret (bs := []) .nil (Z.rv1 (Z.rv_tmp (t := 4) rfl)) ?_
                                    first | exact Z.post_of ⟨rfl, rfl⟩ (by repeat (first | with_reducible exact Z.Takes.nil | (apply Z.Takes.cons; (repeat (first | with_reducible exact Z.Take.here | apply Z.Take.there))))) (by repeat (first | with_reducible exact Z.Drop.nil | apply Z.Drop.cons)) | exact Z.post_of ⟨congrArg Value.bool (decide_eq_true rfl), rfl⟩ (by repeat (first | with_reducible exact Z.Takes.nil | (apply Z.Takes.cons; (repeat (first | with_reducible exact Z.Take.here | apply Z.Take.there))))) (by repeat (first | with_reducible exact Z.Drop.nil | apply Z.Drop.cons))
                                · try (with_reducible first | replace hc59 := of_decide_eq_true hc59 | replace hc59 := of_decide_eq_false hc59 | replace hc59 := Z.nd_true hc59 | replace hc59 := Z.nd_false hc59 | replace hc59 := Z.nn_true hc59 | replace hc59 := Z.nn_false hc59 | replace hc59 := Z.nb_true hc59 | replace hc59 := Z.nb_false hc59)
                                  first
                                  | (exfalso; first | (cases hc59; done) | omega)
                                  | skip
                                    refine Z.j_skip ?_
                                    refine Z.j_blk ?_
                                    refine Z.j_then ?_
                                    (refine Z.j_nextG (X := { x : (Array Nat) // True }) (EE := (fun (x : { x : (Array Nat) // True }) => [(0, .slice p n cap), (1, v), (5, .pointer (some ⟨b5, 0, none⟩)), (6, .map (some b32)), (33, .slice p n cap), (34, .int .i64 n), (35, .int .i64 (i : Nat)), (7, .int .i64 (i : Nat)), (8, .pointer (some ⟨b8, 0, none⟩)), (9, .int .i64 ((rt os i).last + 1)), (52, .pointer (some ⟨r52, 0, none⟩))])) (LL := (fun (x : { x : (Array Nat) // True }) => [Z.It r52 b32 clock52 (x.1), Z.MapB b32 Cell.e (Value.int .i64) (rt os i).ver bs52 clock52, RowP b5 ((rt os i).put (⟨(os.getD i OpR.z).l, (os.getD i OpR.z).k⟩ : Cell)), Z.cl b8 38 [.int .i64 (os.getD i OpR.z).kd, .int .i64 (os.getD i OpR.z).l, .int .u32 (os.getD i OpR.z).k]])) (μ := (fun (x : { x : (Array Nat) // True }) => Z.mleft bs52 (x.1))) (x := ⟨(seen), hinv2⟩) ⟨(seen.push y53), trivial⟩ ?_ ?_ ?_; (show Z.mleft bs52 (seen.push y53) < Z.mleft bs52 seen; omega); (exact (by repeat (first | exact trivial | refine ⟨rfl, ?_⟩))); (exact Z.st_td (by repeat (first | with_reducible exact Z.Takes.nil | (apply Z.Takes.cons; (repeat (first | with_reducible exact Z.Take.here | apply Z.Take.there))))) (by repeat (first | with_reducible exact Z.Drop.nil | apply Z.Drop.cons))))
                            · exfalso; first | (cases hc54; done) | (simp at hc54; done) | (simp at hc54; omega) | (replace hc54 := of_decide_eq_true hc54; contradiction) | (replace hc54 := of_decide_eq_false hc54; contradiction)
                      · try (with_reducible first | replace hc47 := of_decide_eq_true hc47 | replace hc47 := of_decide_eq_false hc47 | replace hc47 := Z.nd_true hc47 | replace hc47 := Z.nd_false hc47 | replace hc47 := Z.nn_true hc47 | replace hc47 := Z.nn_false hc47 | replace hc47 := Z.nb_true hc47 | replace hc47 := Z.nb_false hc47)
                        first
                        | (exfalso; first | (cases hc47; done) | omega)
                        | skip
                          refine Z.j_seq ?_
                          refine Z.j_region ?_
                          refine Z.s_val (Z.pv_fieldAddr (o' := 0) rfl Try.underlying38 rfl Try.sizeOf3 rfl) ?_
                          refine Z.s_val (Z.pv_load1 rfl (by repeat (first | with_reducible exact Z.Take.here | apply Z.Take.there)) Try.isAgg3 (by rfl)) ?_
                          refine Z.s_val (Z.pv_eql rfl rfl) ?_
                          refine Z.j_nil ?_
                          refine Z.j_then ?_
                          refine Z.j_cond rfl (fun hc74 => ?_) (fun hc74 => ?_)
                          · try (with_reducible first | replace hc74 := of_decide_eq_true hc74 | replace hc74 := of_decide_eq_false hc74 | replace hc74 := Z.nd_true hc74 | replace hc74 := Z.nd_false hc74 | replace hc74 := Z.nn_true hc74 | replace hc74 := Z.nn_false hc74 | replace hc74 := Z.nb_true hc74 | replace hc74 := Z.nb_false hc74)
                            first
                            | (exfalso; first | (cases hc74; done) | omega)
                            | skip
                              refine Z.j_seq ?_
                              refine Z.j_region ?_
                              refine Z.s_val (Z.pv_move rfl) ?_
                              refine Z.s_val (Z.pv_fieldAddr (o' := 1) rfl Try.underlying38 rfl Try.sizeOf36 rfl) ?_
                              refine Z.s_val (Z.pv_loadA rfl (by repeat (first | with_reducible exact Z.Take.here | apply Z.Take.there)) Try.isAgg36 Try.sizeOf36 (by rfl)) ?_
                              refine Z.s_val (Z.pv_lookupOkZ (k := (⟨(os.getD i OpR.z).l, (os.getD i OpR.z).k⟩ : Cell)) (venc := Value.int .i64) (m := (rt os i).ver) 0 rfl rfl Try.underlying26 kCell Try.zeroValue3 (by repeat (first | with_reducible exact Z.Take.here | apply Z.Take.there))) ?_
                              refine Z.s_val (Z.pv_move rfl) ?_
                              refine Z.s_val (Z.pv_extract rfl rfl) ?_
                              refine Z.s_val (Z.pv_extract rfl rfl) ?_
                              refine Z.s_val (Z.pv_assign rfl) ?_
                              refine Z.s_val (Z.pv_assign rfl) ?_
                              refine Z.j_nil ?_
                              refine Z.j_then ?_
                              refine Z.j_seq ?_
                              refine Z.j_seq ?_
                              refine Z.j_region ?_
                              refine Z.s_val (Z.pv_fieldAddr (o' := 1) rfl Try.underlying38 rfl Try.sizeOf36 rfl) ?_
                              refine Z.s_val (Z.pv_loadA rfl (by repeat (first | with_reducible exact Z.Take.here | apply Z.Take.there)) Try.isAgg36 Try.sizeOf36 (by rfl)) ?_
                              refine Z.s_callD rfl rfl rfl isFn13 (by repeat (first | with_reducible exact Z.Takes.nil | (apply Z.Takes.cons; (repeat (first | with_reducible exact Z.Take.here | apply Z.Take.there))))) (by repeat (first | exact Z.App.nil | apply Z.App.cons)) (drop_spec _ _ (rt os i) _ _) ?_
                              refine Z.s_val (Z.pv_move rfl) ?_
                              refine Z.s_val (Z.pv_neqb rfl rfl Try.underlying4) ?_
                              refine Z.j_nil ?_
                              refine Z.j_then ?_
                              refine Z.j_cond rfl (fun hc86 => ?_) (fun hc86 => ?_)
                              · try (with_reducible first | replace hc86 := of_decide_eq_true hc86 | replace hc86 := of_decide_eq_false hc86 | replace hc86 := Z.nd_true hc86 | replace hc86 := Z.nd_false hc86 | replace hc86 := Z.nn_true hc86 | replace hc86 := Z.nn_false hc86 | replace hc86 := Z.nb_true hc86 | replace hc86 := Z.nb_false hc86)
                                exact absurd rfl hc86
                              · try (with_reducible first | replace hc86 := of_decide_eq_true hc86 | replace hc86 := of_decide_eq_false hc86 | replace hc86 := Z.nd_true hc86 | replace hc86 := Z.nd_false hc86 | replace hc86 := Z.nn_true hc86 | replace hc86 := Z.nn_false hc86 | replace hc86 := Z.nb_true hc86 | replace hc86 := Z.nb_false hc86)
                                first
                                | (exfalso; first | (cases hc86; done) | omega)
                                | skip
                                  refine Z.j_skip ?_
                                  refine Z.j_then ?_
                                  refine Z.j_region ?_
                                  refine Z.s_val (Z.pv_move rfl) ?_
                                  refine Z.s_val (Z.pv_fieldAddr (o' := 1) rfl Try.underlying38 rfl Try.sizeOf36 rfl) ?_
                                  refine Z.s_val (Z.pv_loadA rfl (by repeat (first | with_reducible exact Z.Take.here | apply Z.Take.there)) Try.isAgg36 Try.sizeOf36 (by rfl)) ?_
                                  refine Z.s_delete0 (k := (⟨(os.getD i OpR.z).l, (os.getD i OpR.z).k⟩ : Cell)) rfl rfl Try.underlying26 kCell (by repeat (first | with_reducible exact Z.Take.here | apply Z.Take.there)) ?_
                                  refine Z.j_nil ?_
                                  refine Z.j_blk ?_
                                  refine Z.j_then ?_
                                  refine Z.j_region ?_
                                  refine Z.s_val (Z.pv_add rfl rfl (by first | exact IntWalk.i64_in _ (by omega) | rfl)) ?_
                                  refine Z.s_val (Z.pv_move rfl) ?_
                                  refine Z.j_nil ?_
                                  refine Z.j_then ?_
                                  first
                                  | (refine Z.j_cast (A := RowP b5 ((rt os i).put (⟨(os.getD i OpR.z).l, (os.getD i OpR.z).k⟩ : Cell))) (B := RowP b5 (rt os (i + 1))) (by repeat (first | with_reducible exact Z.Take.here | apply Z.Take.there)) (by rw [rt_put (by first | exact .inl hg43 | exact .inr hc47)]) ?_; refine Z.j_cast (A := Z.MapP b32 Cell.e (Value.int .i64) (Z.mput (⟨(os.getD i OpR.z).l, (os.getD i OpR.z).k⟩ : Cell) ((rt os i).last + 1) (rt os i).ver)) (B := Z.MapP b32 Cell.e (Value.int .i64) (rt os (i + 1)).ver) (by repeat (first | with_reducible exact Z.Take.here | apply Z.Take.there)) (by rw [← rt_put (by first | exact .inl hg43 | exact .inr hc47)]; rfl) ?_)
                                  | (refine Z.j_cast (A := RowP b5 ((rt os i).drop (⟨(os.getD i OpR.z).l, (os.getD i OpR.z).k⟩ : Cell))) (B := RowP b5 (rt os (i + 1))) (by repeat (first | with_reducible exact Z.Take.here | apply Z.Take.there)) (by rw [rt_drop (not_or.2 ⟨hg43, hc47⟩) hc74]) ?_; refine Z.j_cast (A := Z.MapP b32 Cell.e (Value.int .i64) (Z.mdel (⟨(os.getD i OpR.z).l, (os.getD i OpR.z).k⟩ : Cell) (rt os i).ver)) (B := Z.MapP b32 Cell.e (Value.int .i64) (rt os (i + 1)).ver) (by repeat (first | with_reducible exact Z.Take.here | apply Z.Take.there)) (by rw [← rt_drop (not_or.2 ⟨hg43, hc47⟩) hc74]; rfl) ?_)
                                  | (refine Z.j_cast (A := RowP b5 (rt os i)) (B := RowP b5 (rt os (i + 1))) (by repeat (first | with_reducible exact Z.Take.here | apply Z.Take.there)) (by rw [rt_same (not_or.2 ⟨hg43, hc47⟩) hc74]) ?_; refine Z.j_cast (A := Z.MapP b32 Cell.e (Value.int .i64) (rt os i).ver) (B := Z.MapP b32 Cell.e (Value.int .i64) (rt os (i + 1)).ver) (by repeat (first | with_reducible exact Z.Take.here | apply Z.Take.there)) (by rw [← rt_same (not_or.2 ⟨hg43, hc47⟩) hc74]) ?_)
                                  (refine Z.j_nextG (X := { x : (Nat) // (x) ≤ n }) (EE := (fun (x : { x : (Nat) // (x) ≤ n }) => [(0, .slice p n cap), (1, v), (5, .pointer (some ⟨b5, 0, none⟩)), (6, .map (some b32)), (33, .slice p n cap), (34, .int .i64 n), (35, .int .i64 ((x.1) : Nat))])) (LL := (fun (x : { x : (Nat) // (x) ≤ n }) => [RowP b5 (rt os (x.1)), Z.MapP b32 Cell.e (Value.int .i64) (rt os (x.1)).ver])) (μ := (fun (x : { x : (Nat) // (x) ≤ n }) => n - (x.1))) (x := ⟨(i), hinv⟩) ⟨(i + 1), by omega⟩ ?_ ?_ ?_; (show n - (i + 1) < n - i; omega); (exact (by repeat (first | exact trivial | refine ⟨rfl, ?_⟩))); (exact Z.st_td (by repeat (first | with_reducible exact Z.Takes.nil | (apply Z.Takes.cons; (repeat (first | with_reducible exact Z.Take.here | apply Z.Take.there))))) (by repeat (first | with_reducible exact Z.Drop.nil | apply Z.Drop.cons))))
                          · try (with_reducible first | replace hc74 := of_decide_eq_true hc74 | replace hc74 := of_decide_eq_false hc74 | replace hc74 := Z.nd_true hc74 | replace hc74 := Z.nd_false hc74 | replace hc74 := Z.nn_true hc74 | replace hc74 := Z.nn_false hc74 | replace hc74 := Z.nb_true hc74 | replace hc74 := Z.nb_false hc74)
                            first
                            | (exfalso; first | (cases hc74; done) | omega)
                            | skip
                              refine Z.j_skip ?_
                              refine Z.j_blk ?_
                              refine Z.j_then ?_
                              refine Z.j_region ?_
                              refine Z.s_val (Z.pv_add rfl rfl (by first | exact IntWalk.i64_in _ (by omega) | rfl)) ?_
                              refine Z.s_val (Z.pv_move rfl) ?_
                              refine Z.j_nil ?_
                              refine Z.j_then ?_
                              first
                              | (refine Z.j_cast (A := RowP b5 ((rt os i).put (⟨(os.getD i OpR.z).l, (os.getD i OpR.z).k⟩ : Cell))) (B := RowP b5 (rt os (i + 1))) (by repeat (first | with_reducible exact Z.Take.here | apply Z.Take.there)) (by rw [rt_put (by first | exact .inl hg43 | exact .inr hc47)]) ?_; refine Z.j_cast (A := Z.MapP b32 Cell.e (Value.int .i64) (Z.mput (⟨(os.getD i OpR.z).l, (os.getD i OpR.z).k⟩ : Cell) ((rt os i).last + 1) (rt os i).ver)) (B := Z.MapP b32 Cell.e (Value.int .i64) (rt os (i + 1)).ver) (by repeat (first | with_reducible exact Z.Take.here | apply Z.Take.there)) (by rw [← rt_put (by first | exact .inl hg43 | exact .inr hc47)]; rfl) ?_)
                              | (refine Z.j_cast (A := RowP b5 ((rt os i).drop (⟨(os.getD i OpR.z).l, (os.getD i OpR.z).k⟩ : Cell))) (B := RowP b5 (rt os (i + 1))) (by repeat (first | with_reducible exact Z.Take.here | apply Z.Take.there)) (by rw [rt_drop (not_or.2 ⟨hg43, hc47⟩) hc74]) ?_; refine Z.j_cast (A := Z.MapP b32 Cell.e (Value.int .i64) (Z.mdel (⟨(os.getD i OpR.z).l, (os.getD i OpR.z).k⟩ : Cell) (rt os i).ver)) (B := Z.MapP b32 Cell.e (Value.int .i64) (rt os (i + 1)).ver) (by repeat (first | with_reducible exact Z.Take.here | apply Z.Take.there)) (by rw [← rt_drop (not_or.2 ⟨hg43, hc47⟩) hc74]; rfl) ?_)
                              | (refine Z.j_cast (A := RowP b5 (rt os i)) (B := RowP b5 (rt os (i + 1))) (by repeat (first | with_reducible exact Z.Take.here | apply Z.Take.there)) (by rw [rt_same (not_or.2 ⟨hg43, hc47⟩) hc74]) ?_; refine Z.j_cast (A := Z.MapP b32 Cell.e (Value.int .i64) (rt os i).ver) (B := Z.MapP b32 Cell.e (Value.int .i64) (rt os (i + 1)).ver) (by repeat (first | with_reducible exact Z.Take.here | apply Z.Take.there)) (by rw [← rt_same (not_or.2 ⟨hg43, hc47⟩) hc74]) ?_)
                              (refine Z.j_nextG (X := { x : (Nat) // (x) ≤ n }) (EE := (fun (x : { x : (Nat) // (x) ≤ n }) => [(0, .slice p n cap), (1, v), (5, .pointer (some ⟨b5, 0, none⟩)), (6, .map (some b32)), (33, .slice p n cap), (34, .int .i64 n), (35, .int .i64 ((x.1) : Nat))])) (LL := (fun (x : { x : (Nat) // (x) ≤ n }) => [RowP b5 (rt os (x.1)), Z.MapP b32 Cell.e (Value.int .i64) (rt os (x.1)).ver])) (μ := (fun (x : { x : (Nat) // (x) ≤ n }) => n - (x.1))) (x := ⟨(i), hinv⟩) ⟨(i + 1), by omega⟩ ?_ ?_ ?_; (show n - (i + 1) < n - i; omega); (exact (by repeat (first | exact trivial | refine ⟨rfl, ?_⟩))); (exact Z.st_td (by repeat (first | with_reducible exact Z.Takes.nil | (apply Z.Takes.cons; (repeat (first | with_reducible exact Z.Take.here | apply Z.Take.there))))) (by repeat (first | with_reducible exact Z.Drop.nil | apply Z.Drop.cons))))
              · try (with_reducible first | replace hc36 := of_decide_eq_true hc36 | replace hc36 := of_decide_eq_false hc36 | replace hc36 := Z.nd_true hc36 | replace hc36 := Z.nd_false hc36 | replace hc36 := Z.nn_true hc36 | replace hc36 := Z.nn_false hc36 | replace hc36 := Z.nb_true hc36 | replace hc36 := Z.nb_false hc36)
                first
                | (exfalso; first | (cases hc36; done) | omega)
                | skip
                  have hin : i = n := by omega
                  subst hin
                  obtain ⟨r, hr0⟩ : ∃ r, rt os i = r := ⟨_, rfl⟩
                  obtain ⟨hok, hla, hKB⟩ := rt_ok hos i (by omega)
                  rw [hr0] at hok hla hKB
                  rw [hr0]
                  have hl0 := hok.l0
                  have hlen := hok.len
                  have hil : (inA r.ver a).length ≤ r.ver.length := by rw [← outs_end (Nat.le_refl _)]; exact outs_len _ _ _
                  refine Z.j_exit ?_
                  refine Z.j_then_exit ?_
                  refine Z.j_then_exit ?_
                  refine Z.j_blk_here rfl ?_
                  refine Z.j_then ?_
                  refine Z.j_seq ?_
                  refine Z.j_seq ?_
                  refine Z.j_region ?_
                  refine Z.s_val (Z.pv_move rfl) ?_
                  refine Z.s_range rfl Try.underlying26 (by repeat (first | with_reducible exact Z.Take.here | apply Z.Take.there)) (fun r92 bs92 clock92 hk92 => ?_)
                  refine Z.j_nil ?_
                  refine Z.j_then ?_
                  refine Z.j_block ?_
                  refine Z.j_initF (E' := [(1, v), (5, .pointer (some ⟨b5, 0, none⟩)), (6, .map (some b32)), (92, .pointer (some ⟨r92, 0, none⟩))]) (As := [Z.It r92 b32 clock92 (#[]), Z.MapB b32 Cell.e (Value.int .i64) r.ver bs92 clock92, RowP b5 r]) (Fr := Fr) (by repeat (first | exact trivial | refine ⟨rfl, ?_⟩)) (by repeat (first | with_reducible exact Z.Takes.nil | (apply Z.Takes.cons; (repeat (first | with_reducible exact Z.Take.here | apply Z.Take.there))))) (by repeat (first | with_reducible exact Z.Drop.nil | apply Z.Drop.cons)) ?_
                  refine Z.j_loop (X := { x : (Array Nat) // True }) (fun (x : { x : (Array Nat) // True }) => [(1, v), (5, .pointer (some ⟨b5, 0, none⟩)), (6, .map (some b32)), (92, .pointer (some ⟨r92, 0, none⟩))]) (fun x => (fun (x : { x : (Array Nat) // True }) => [Z.It r92 b32 clock92 (x.1), Z.MapB b32 Cell.e (Value.int .i64) r.ver bs92 clock92, RowP b5 r]) x ++ Fr) (fun (x : { x : (Array Nat) // True }) => Z.mleft bs92 (x.1)) ⟨(#[]), trivial⟩ (fun x => ?_)
                  obtain ⟨seen, hinv2⟩ := x
                  have hinv2' : True := hinv2
                  obtain _ := hinv2'
                  show Z.J _ _ _ ([(1, v), (5, .pointer (some ⟨b5, 0, none⟩)), (6, .map (some b32)), (92, .pointer (some ⟨r92, 0, none⟩))]) ([Z.It r92 b32 clock92 seen, Z.MapB b32 Cell.e (Value.int .i64) r.ver bs92 clock92, RowP b5 r] ++ Fr) _
                  refine Z.j_app (by repeat (first | exact Z.App.nil | apply Z.App.cons)) ?_
                  refine Z.j_seq ?_
                  refine Z.j_region ?_
                  refine Z.s_next rfl hk92 (by repeat (first | with_reducible exact Z.Take.here | apply Z.Take.there)) (fun _ => (by repeat (first | with_reducible exact Z.Upd.here | apply Z.Upd.there))) (fun hall93 => ?_) (fun ix93 ky93 vl93 y93 hm93 hy93 hns93 hlt93 => ?_)
                  · skip
                    refine Z.s_val (Z.pv_extract rfl rfl) ?_
                    refine Z.j_nil ?_
                    refine Z.j_then ?_
                    refine Z.j_seq ?_
                    refine Z.j_cond rfl (fun hc94 => ?_) (fun hc94 => ?_)
                    · exfalso; first | (cases hc94; done) | (simp at hc94; done) | (simp at hc94; omega) | (replace hc94 := of_decide_eq_true hc94; contradiction) | (replace hc94 := of_decide_eq_false hc94; contradiction)
                    · try (with_reducible first | replace hc94 := of_decide_eq_true hc94 | replace hc94 := of_decide_eq_false hc94 | replace hc94 := Z.nd_true hc94 | replace hc94 := Z.nd_false hc94 | replace hc94 := Z.nn_true hc94 | replace hc94 := Z.nn_false hc94 | replace hc94 := Z.nb_true hc94 | replace hc94 := Z.nb_false hc94)
                      first
                      | (exfalso; first | (cases hc94; done) | omega)
                      | skip
                        refine Z.j_exit ?_
                        refine Z.j_then_exit ?_
                        refine Z.j_then_exit ?_
                        refine Z.j_blk_here rfl ?_
                        refine Z.j_then ?_
                        refine Z.j_seq ?_
                        refine Z.J.mapP_close (by repeat (first | with_reducible exact Z.Take.here | apply Z.Take.there)) hk92 ?_
                        refine Z.j_fold (A := Z.sep []) (As := []) (by repeat (first | with_reducible exact Z.Takes.nil | (apply Z.Takes.cons; (repeat (first | with_reducible exact Z.Take.here | apply Z.Take.there))))) (fun _ H => H) ?_
                        refine Z.j_region ?_
                        refine Z.s_val (Z.pv_move rfl) ?_
                        refine Z.s_call rfl rfl rfl isFn22 (by repeat (first | with_reducible exact Z.Takes.nil | (apply Z.Takes.cons; (repeat (first | with_reducible exact Z.Take.here | apply Z.Take.there))))) (in_spec _ _ r hok v a (Z.sep []) (fewA_nb hfew) (fun w R h => hA.up h)) ?_
                        rintro v111 _ rfl
                        refine Z.j_app (by repeat (first | exact Z.App.nil | apply Z.App.cons)) ?_
                        refine Z.s_val (Z.pv_assign rfl) ?_
                        refine Z.j_nil ?_
                        refine Z.j_then ?_
                        refine Z.j_seq ?_
                        refine Z.j_seq ?_
                        refine Z.j_region ?_
                        refine Z.s_val (Z.pv_assign rfl) ?_
                        refine Z.j_nil ?_
                        refine Z.j_then ?_
                        refine Z.j_block ?_
                        refine Z.j_initF (E' := [(1, v), (5, .pointer (some ⟨b5, 0, none⟩)), (6, .map (some b32)), (18, v111), (19, .int .i64 ((1) : Nat))]) (As := [Z.Own 3 1 v111 (inA r.ver a).length (i64s (inA r.ver a)), RowP b5 r, Z.MapP b32 Cell.e (Value.int .i64) r.ver]) (Fr := Fr) (by repeat (first | exact trivial | refine ⟨rfl, ?_⟩)) (by repeat (first | with_reducible exact Z.Takes.nil | (apply Z.Takes.cons; (repeat (first | with_reducible exact Z.Take.here | apply Z.Take.there))))) (by repeat (first | with_reducible exact Z.Drop.nil | apply Z.Drop.cons)) ?_
                        refine Z.j_loop (X := { x : (Nat) // 1 ≤ (x) ∧ ((x) ≤ (inA r.ver a).length ∨ (x) = 1) }) (fun (x : { x : (Nat) // 1 ≤ (x) ∧ ((x) ≤ (inA r.ver a).length ∨ (x) = 1) }) => [(1, v), (5, .pointer (some ⟨b5, 0, none⟩)), (6, .map (some b32)), (18, v111), (19, .int .i64 ((x.1) : Nat))]) (fun x => (fun (x : { x : (Nat) // 1 ≤ (x) ∧ ((x) ≤ (inA r.ver a).length ∨ (x) = 1) }) => [Z.Own 3 1 v111 (inA r.ver a).length (i64s (inA r.ver a)), RowP b5 r, Z.MapP b32 Cell.e (Value.int .i64) r.ver]) x ++ Fr) (fun (x : { x : (Nat) // 1 ≤ (x) ∧ ((x) ≤ (inA r.ver a).length ∨ (x) = 1) }) => (inA r.ver a).length - (x.1)) ⟨(1), ⟨by omega, .inr rfl⟩⟩ (fun x => ?_)
                        obtain ⟨j, hinv3⟩ := x
                        have hinv3' : 1 ≤ j ∧ (j ≤ (inA r.ver a).length ∨ j = 1) := hinv3
                        obtain ⟨hj1, hj2⟩ := hinv3'
                        show Z.J _ _ _ ([(1, v), (5, .pointer (some ⟨b5, 0, none⟩)), (6, .map (some b32)), (18, v111), (19, .int .i64 (j : Nat))]) ([Z.Own 3 1 v111 (inA r.ver a).length (i64s (inA r.ver a)), RowP b5 r, Z.MapP b32 Cell.e (Value.int .i64) r.ver] ++ Fr) _
                        refine Z.j_app (by repeat (first | exact Z.App.nil | apply Z.App.cons)) ?_
                        refine Z.j_seq ?_
                        refine Z.j_seq ?_
                        refine Z.j_region ?_
                        refine Z.s_val (Z.pv_move rfl) ?_
                        refine Z.s_val (Z.pv_move rfl) ?_
                        refine Z.s_val (Z.pv_lenO rfl (by repeat (first | with_reducible exact Z.Take.here | apply Z.Take.there)) Try.underlying48) ?_
                        refine Z.s_val (Z.pv_lss rfl rfl) ?_
                        refine Z.j_nil ?_
                        refine Z.j_then ?_
                        refine Z.j_cond rfl (fun hc115 => ?_) (fun hc115 => ?_)
                        · try (with_reducible first | replace hc115 := of_decide_eq_true hc115 | replace hc115 := of_decide_eq_false hc115 | replace hc115 := Z.nd_true hc115 | replace hc115 := Z.nd_false hc115 | replace hc115 := Z.nn_true hc115 | replace hc115 := Z.nn_false hc115 | replace hc115 := Z.nb_true hc115 | replace hc115 := Z.nb_false hc115)
                          first
                          | (exfalso; first | (cases hc115; done) | omega)
                          | skip
                            have hup := inA_step hok (a := a) (i := j) (by omega) (by omega)
                            refine Z.j_skip ?_
                            refine Z.j_then ?_
                            refine Z.j_seq ?_
                            refine Z.j_block ?_
                            refine Z.j_seq ?_
                            refine Z.j_unown (T := 3) (k := 1) (v := v111) (by repeat (first | with_reducible exact Z.Take.here | apply Z.Take.there)) (fun e1 e2 e3 => by exfalso; omega) (fun nb cap3 sp e1 e2 e3 => ?_)
                            refine Z.j_draw (vals := [_, _, _, _, _, _, _, _, _, _]) 10 (by kernel_rfl) (by kernel_rfl) rfl (by rfl) (Z.heads_cons (Z.hq_val (Z.pv_move (by rfl))) (Z.heads_cons (Z.hq_val (Z.pv_move (by rfl))) (Z.heads_cons (Z.hq_val (Z.pv_indexAddr (o' := j) (b := nb) (o := 0) (len := (inA r.ver a).length) (cap := cap3) (by show some v111 = _; rw [e1]) (by rfl) Try.underlying48 (by exact Try.sizeOf3) (by omega) (by simp))) (Z.heads_cons (Z.hq_val (Z.pv_load1 (by rfl) (by repeat (first | with_reducible exact Z.Take.here | apply Z.Take.there)) Try.isAgg3 (get_i64 sp (by omega)))) (Z.heads_cons (Z.hq_val (Z.pv_move (by rfl))) (Z.heads_cons (Z.hq_val (Z.pv_move (by rfl))) (Z.heads_cons (Z.hq_val (Z.pv_sub (by rfl) (by rfl) (by first | exact IntWalk.i64_in _ (by omega) | rfl))) (Z.heads_cons (Z.hq_val (Z.pv_indexAddr (o' := j - 1) (b := nb) (o := 0) (len := (inA r.ver a).length) (cap := cap3) (by show some v111 = _; rw [e1]) (by rfl) Try.underlying48 (by exact Try.sizeOf3) (by omega) (by omega))) (Z.heads_cons (Z.hq_val (Z.pv_load1 (by rfl) (by repeat (first | with_reducible exact Z.Take.here | apply Z.Take.there)) Try.isAgg3 (get_i64 sp (by omega)))) (Z.heads_cons (Z.hq_val (Z.pv_leq (by rfl) (by rfl))) Z.heads_nil)))))))))) ?_
                            refine Z.j_nil ?_
                            refine Z.j_then ?_
                            refine Z.j_cond rfl (fun hc127 => ?_) (fun hc127 => ?_)
                            · try (with_reducible first | replace hc127 := of_decide_eq_true hc127 | replace hc127 := of_decide_eq_false hc127 | replace hc127 := Z.nd_true hc127 | replace hc127 := Z.nd_false hc127 | replace hc127 := Z.nn_true hc127 | replace hc127 := Z.nn_false hc127 | replace hc127 := Z.nb_true hc127 | replace hc127 := Z.nb_false hc127)
                              first
                              | (exfalso; first | (cases hc127; done) | omega)
                              | skip
                                refine Z.j_seq ?_
                                refine Z.j_region ?_
                                refine Z.s_val (Z.pv_assign rfl) ?_
                                refine Z.j_nil ?_
                                refine Z.j_then ?_
                                refine Z.j_ret ?_
                                refine Z.j_blk_ret ?_
                                refine Z.j_then_ret ?_
                                refine Z.j_then_ret ?_
                                refine Z.j_blk_ret ?_
                                refine Z.j_then_ret ?_
                                refine Z.j_doneM_ret (bs := []) .nil (Z.rv1 (Z.rv_tmp (t := 4) rfl)) ?_
                                first | exact Z.post_of ⟨rfl, rfl⟩ (by repeat (first | with_reducible exact Z.Takes.nil | (apply Z.Takes.cons; (repeat (first | with_reducible exact Z.Take.here | apply Z.Take.there))))) (by repeat (first | with_reducible exact Z.Drop.nil | apply Z.Drop.cons)) | exact Z.post_of ⟨congrArg Value.bool (decide_eq_true rfl), rfl⟩ (by repeat (first | with_reducible exact Z.Takes.nil | (apply Z.Takes.cons; (repeat (first | with_reducible exact Z.Take.here | apply Z.Take.there))))) (by repeat (first | with_reducible exact Z.Drop.nil | apply Z.Drop.cons))
                            · try (with_reducible first | replace hc127 := of_decide_eq_true hc127 | replace hc127 := of_decide_eq_false hc127 | replace hc127 := Z.nd_true hc127 | replace hc127 := Z.nd_false hc127 | replace hc127 := Z.nn_true hc127 | replace hc127 := Z.nn_false hc127 | replace hc127 := Z.nb_true hc127 | replace hc127 := Z.nb_false hc127)
                              first
                              | (exfalso; first | (cases hc127; done) | omega)
                              | skip
                                refine Z.j_skip ?_
                                refine Z.j_blk ?_
                                refine Z.j_then ?_
                                refine Z.j_region ?_
                                refine Z.s_val (Z.pv_move rfl) ?_
                                refine Z.s_val (Z.pv_add rfl rfl (by first | exact IntWalk.i64_in _ (by omega) | rfl)) ?_
                                refine Z.s_val (Z.pv_assign rfl) ?_
                                refine Z.j_nil ?_
                                refine Z.j_then ?_
                                refine Z.j_own (T := 3) (k := 1) (m := (inA r.ver a).length) (cap := cap3) (c := i64s (inA r.ver a)) (sp := sp) (by repeat (first | with_reducible exact Z.Take.here | apply Z.Take.there)) e2 e3 ?_
                                rw [← e1]
                                (refine Z.j_nextG (X := { x : (Nat) // 1 ≤ (x) ∧ ((x) ≤ (inA r.ver a).length ∨ (x) = 1) }) (EE := (fun (x : { x : (Nat) // 1 ≤ (x) ∧ ((x) ≤ (inA r.ver a).length ∨ (x) = 1) }) => [(1, v), (5, .pointer (some ⟨b5, 0, none⟩)), (6, .map (some b32)), (18, v111), (19, .int .i64 ((x.1) : Nat))])) (LL := (fun (x : { x : (Nat) // 1 ≤ (x) ∧ ((x) ≤ (inA r.ver a).length ∨ (x) = 1) }) => [Z.Own 3 1 v111 (inA r.ver a).length (i64s (inA r.ver a)), RowP b5 r, Z.MapP b32 Cell.e (Value.int .i64) r.ver])) (μ := (fun (x : { x : (Nat) // 1 ≤ (x) ∧ ((x) ≤ (inA r.ver a).length ∨ (x) = 1) }) => (inA r.ver a).length - (x.1))) (x := ⟨(j), hinv3⟩) ⟨(j + 1), ⟨by omega, by omega⟩⟩ ?_ ?_ ?_; (show (inA r.ver a).length - (j + 1) < (inA r.ver a).length - j; omega); (exact (by repeat (first | exact trivial | refine ⟨rfl, ?_⟩))); (exact Z.st_td (by repeat (first | with_reducible exact Z.Takes.nil | (apply Z.Takes.cons; (repeat (first | with_reducible exact Z.Take.here | apply Z.Take.there))))) (by repeat (first | with_reducible exact Z.Drop.nil | apply Z.Drop.cons))))
                        · try (with_reducible first | replace hc115 := of_decide_eq_true hc115 | replace hc115 := of_decide_eq_false hc115 | replace hc115 := Z.nd_true hc115 | replace hc115 := Z.nd_false hc115 | replace hc115 := Z.nn_true hc115 | replace hc115 := Z.nn_false hc115 | replace hc115 := Z.nb_true hc115 | replace hc115 := Z.nb_false hc115)
                          first
                          | (exfalso; first | (cases hc115; done) | omega)
                          | skip
                            refine Z.j_exit ?_
                            refine Z.j_then_exit ?_
                            refine Z.j_then_exit ?_
                            refine Z.j_blk_here rfl ?_
                            refine Z.j_then ?_
                            refine Z.j_seq ?_
                            refine Z.j_region ?_
                            refine Z.s_val (Z.pv_assign rfl) ?_
                            refine Z.j_nil ?_
                            refine Z.j_then ?_
                            refine Z.j_seq ?_
                            refine Z.j_seq ?_
                            refine Z.j_region ?_
                            refine Z.s_val (Z.pv_move rfl) ?_
                            refine Z.s_range rfl Try.underlying26 (by repeat (first | with_reducible exact Z.Take.here | apply Z.Take.there)) (fun r129 bs129 clock129 hk129 => ?_)
                            refine Z.j_nil ?_
                            refine Z.j_then ?_
                            refine Z.j_block ?_
                            have hz2 : ((r.ver.zip bs129).map (·.2)).Nodup := by rw [Z.zip_snd hk129.1]; exact hk129.2.1
                            refine Z.j_initF (E' := [(1, v), (5, .pointer (some ⟨b5, 0, none⟩)), (6, .map (some b32)), (18, v111), (20, .int .i64 ((([]).filter (hasA a)).length : Nat)), (129, .pointer (some ⟨r129, 0, none⟩))]) (As := [Z.It r129 b32 clock129 (#[]), Z.MapB b32 Cell.e (Value.int .i64) r.ver bs129 clock129, RowP b5 r, Z.Own 3 1 v111 (inA r.ver a).length (i64s (inA r.ver a))]) (Fr := Fr) (by repeat (first | exact trivial | refine ⟨rfl, ?_⟩)) (by repeat (first | with_reducible exact Z.Takes.nil | (apply Z.Takes.cons; (repeat (first | with_reducible exact Z.Take.here | apply Z.Take.there))))) (by repeat (first | with_reducible exact Z.Drop.nil | apply Z.Drop.cons)) ?_
                            refine Z.j_loop (X := { x : (Array Nat) × (List Cell) // (x.2).Perm (Z.seenG (r.ver.zip bs129) (x.1)) }) (fun (x : { x : (Array Nat) × (List Cell) // (x.2).Perm (Z.seenG (r.ver.zip bs129) (x.1)) }) => [(1, v), (5, .pointer (some ⟨b5, 0, none⟩)), (6, .map (some b32)), (18, v111), (20, .int .i64 (((x.1.2).filter (hasA a)).length : Nat)), (129, .pointer (some ⟨r129, 0, none⟩))]) (fun x => (fun (x : { x : (Array Nat) × (List Cell) // (x.2).Perm (Z.seenG (r.ver.zip bs129) (x.1)) }) => [Z.It r129 b32 clock129 (x.1.1), Z.MapB b32 Cell.e (Value.int .i64) r.ver bs129 clock129, RowP b5 r, Z.Own 3 1 v111 (inA r.ver a).length (i64s (inA r.ver a))]) x ++ Fr) (fun (x : { x : (Array Nat) × (List Cell) // (x.2).Perm (Z.seenG (r.ver.zip bs129) (x.1)) }) => Z.mleft bs129 (x.1.1)) ⟨(#[], []), by rw [Z.seenG_nil]⟩ (fun x => ?_)
                            obtain ⟨⟨seen, pre⟩, hinv4⟩ := x
                            have hinv4' : pre.Perm (Z.seenG (r.ver.zip bs129) seen) := hinv4
                            have hpre := hinv4'
                            show Z.J _ _ _ ([(1, v), (5, .pointer (some ⟨b5, 0, none⟩)), (6, .map (some b32)), (18, v111), (20, .int .i64 ((pre.filter (hasA a)).length : Nat)), (129, .pointer (some ⟨r129, 0, none⟩))]) ([Z.It r129 b32 clock129 seen, Z.MapB b32 Cell.e (Value.int .i64) r.ver bs129 clock129, RowP b5 r, Z.Own 3 1 v111 (inA r.ver a).length (i64s (inA r.ver a))] ++ Fr) _
                            refine Z.j_app (by repeat (first | exact Z.App.nil | apply Z.App.cons)) ?_
                            refine Z.j_seq ?_
                            refine Z.j_region ?_
                            refine Z.s_next rfl hk129 (by repeat (first | with_reducible exact Z.Take.here | apply Z.Take.there)) (fun _ => (by repeat (first | with_reducible exact Z.Upd.here | apply Z.Upd.there))) (fun hall130 => ?_) (fun ix130 ky130 vl130 y130 hm130 hy130 hns130 hlt130 => ?_)
                            · skip
                              refine Z.s_val (Z.pv_extract rfl rfl) ?_
                              refine Z.j_nil ?_
                              refine Z.j_then ?_
                              refine Z.j_seq ?_
                              refine Z.j_cond rfl (fun hc131 => ?_) (fun hc131 => ?_)
                              · exfalso; first | (cases hc131; done) | (simp at hc131; done) | (simp at hc131; omega) | (replace hc131 := of_decide_eq_true hc131; contradiction) | (replace hc131 := of_decide_eq_false hc131; contradiction)
                              · try (with_reducible first | replace hc131 := of_decide_eq_true hc131 | replace hc131 := of_decide_eq_false hc131 | replace hc131 := Z.nd_true hc131 | replace hc131 := Z.nd_false hc131 | replace hc131 := Z.nn_true hc131 | replace hc131 := Z.nn_false hc131 | replace hc131 := Z.nb_true hc131 | replace hc131 := Z.nb_false hc131)
                                first
                                | (exfalso; first | (cases hc131; done) | omega)
                                | skip
                                  refine Z.j_exit ?_
                                  refine Z.j_then_exit ?_
                                  refine Z.j_then_exit ?_
                                  refine Z.j_blk_here rfl ?_
                                  refine Z.j_then ?_
                                  refine Z.j_seq ?_
                                  refine Z.J.mapP_close (by repeat (first | with_reducible exact Z.Take.here | apply Z.Take.there)) hk129 ?_
                                  have hpf : pre.Perm (Z.ks r.ver) := by rw [Z.zip_ks hk129.1, ← Z.seenG_all (seen := seen) (by rw [Z.zip_snd hk129.1]; exact hall130)]; exact hpre
                                  have hcnt : (pre.filter (hasA a)).length = (inA r.ver a).length := by rw [inA_len]; exact (hpf.filter _).length_eq
                                  refine Z.j_region ?_
                                  refine Z.s_val (Z.pv_move rfl) ?_
                                  refine Z.s_val (Z.pv_lenO rfl (by repeat (first | with_reducible exact Z.Take.here | apply Z.Take.there)) Try.underlying48) ?_
                                  refine Z.s_val (Z.pv_move rfl) ?_
                                  refine Z.s_val (Z.pv_eql rfl rfl) ?_
                                  refine Z.s_val (Z.pv_move rfl) ?_
                                  refine Z.s_is 143 rfl (show _ = Value.bool true from (congrArg Value.bool (decide_eq_true (by omega)))) ?_
                                  refine Z.s_callD rfl rfl rfl isFn20 (by repeat (first | with_reducible exact Z.Takes.nil | (apply Z.Takes.cons; (repeat (first | with_reducible exact Z.Take.here | apply Z.Take.there))))) (by repeat (first | exact Z.App.nil | apply Z.App.cons)) (live_spec _ _ r) ?_
                                  refine Z.s_val (Z.pv_move rfl) ?_
                                  refine Z.s_val (Z.pv_lenM rfl Try.underlying26 (by repeat (first | with_reducible exact Z.Take.here | apply Z.Take.there))) ?_
                                  refine Z.s_val (Z.pv_eql rfl rfl) ?_
                                  refine Z.s_val (Z.pv_pick rfl rfl) ?_
                                  refine Z.s_val (Z.pv_assign rfl) ?_
                                  refine Z.j_nil ?_
                                  refine Z.j_then ?_
                                  refine Z.j_ret ?_
                                  refine Z.j_doneM_ret (bs := []) .nil (Z.rv1 (Z.rv_tmp (t := 4) rfl)) ?_
                                  first | exact Z.post_of ⟨rfl, rfl⟩ (by repeat (first | with_reducible exact Z.Takes.nil | (apply Z.Takes.cons; (repeat (first | with_reducible exact Z.Take.here | apply Z.Take.there))))) (by repeat (first | with_reducible exact Z.Drop.nil | apply Z.Drop.cons)) | exact Z.post_of ⟨congrArg Value.bool (decide_eq_true rfl), rfl⟩ (by repeat (first | with_reducible exact Z.Takes.nil | (apply Z.Takes.cons; (repeat (first | with_reducible exact Z.Take.here | apply Z.Take.there))))) (by repeat (first | with_reducible exact Z.Drop.nil | apply Z.Drop.cons))
                            · skip
                              refine Z.s_val (Z.pv_extract rfl rfl) ?_
                              refine Z.j_nil ?_
                              refine Z.j_then ?_
                              refine Z.j_seq ?_
                              refine Z.j_cond rfl (fun hc131 => ?_) (fun hc131 => ?_)
                              · try (with_reducible first | replace hc131 := of_decide_eq_true hc131 | replace hc131 := of_decide_eq_false hc131 | replace hc131 := Z.nd_true hc131 | replace hc131 := Z.nd_false hc131 | replace hc131 := Z.nn_true hc131 | replace hc131 := Z.nn_false hc131 | replace hc131 := Z.nb_true hc131 | replace hc131 := Z.nb_false hc131)
                                first
                                | (exfalso; first | (cases hc131; done) | omega)
                                | skip
                                  have hmg := Z.mget_of_mem hok.nd (List.mem_of_getElem? hm130)
                                  have hkb := hKB ky130 (Z.mget_isSome.1 (by rw [hmg]; rfl))
                                  have hq : ((ky130, vl130), y130) ∈ r.ver.zip bs129 := List.mem_of_getElem? (i := ix130) (List.getElem?_zip_eq_some.2 ⟨hm130, hy130⟩)
                                  have hpl := (Z.seenG_ok (Z.zip_ks hk129.1) hpre).len
                                  simp at hpl
                                  have hfl := List.length_filter_le (hasA a) pre
                                  refine Z.j_skip ?_
                                  refine Z.j_then ?_
                                  refine Z.j_block ?_
                                  refine Z.j_seq ?_
                                  refine Z.j_region ?_
                                  refine Z.s_val (Z.pv_entry rfl hk129 hm130 hy130 (by repeat (first | with_reducible exact Z.Take.here | apply Z.Take.there)) (by repeat (first | with_reducible exact Z.Take.here | apply Z.Take.there))) ?_
                                  refine Z.s_val (Z.pv_extract rfl rfl) ?_
                                  refine Z.s_alloc Try.zeroValue36 (fun b21 => ?_)
                                  refine Z.s_storeA rfl rfl Try.sizeOf36 rfl (by repeat (first | with_reducible exact Z.Upd.here | apply Z.Upd.there)) (by rfl) ?_
                                  refine Z.j_nil ?_
                                  refine Z.j_then ?_
                                  refine Z.j_seq ?_
                                  refine Z.j_region ?_
                                  refine Z.s_val (Z.pv_move rfl) ?_
                                  refine Z.s_val (Z.pv_loadA rfl (by repeat (first | with_reducible exact Z.Take.here | apply Z.Take.there)) Try.isAgg36 Try.sizeOf36 (by rfl)) ?_
                                  refine Z.s_callD rfl rfl rfl isFn24 (by repeat (first | with_reducible exact Z.Takes.nil | (apply Z.Takes.cons; (repeat (first | with_reducible exact Z.Take.here | apply Z.Take.there))))) (by repeat (first | exact Z.App.nil | apply Z.App.cons)) (has7_spec _ v a hA hao _ _ hkb) ?_
                                  refine Z.j_nil ?_
                                  refine Z.j_then ?_
                                  refine Z.j_cond rfl (fun hc136 => ?_) (fun hc136 => ?_)
                                  · try (with_reducible first | replace hc136 := of_decide_eq_true hc136 | replace hc136 := of_decide_eq_false hc136 | replace hc136 := Z.nd_true hc136 | replace hc136 := Z.nd_false hc136 | replace hc136 := Z.nn_true hc136 | replace hc136 := Z.nn_false hc136 | replace hc136 := Z.nb_true hc136 | replace hc136 := Z.nb_false hc136)
                                    first
                                    | (exfalso; first | (cases hc136; done) | omega)
                                    | skip
                                      refine Z.j_region ?_
                                      refine Z.s_val (Z.pv_move rfl) ?_
                                      refine Z.s_val (Z.pv_add rfl rfl (by first | exact IntWalk.i64_in _ (by omega) | rfl)) ?_
                                      refine Z.s_val (Z.pv_assign rfl) ?_
                                      refine Z.j_nil ?_
                                      refine Z.j_blk ?_
                                      refine Z.j_then ?_
                                      first
                                      | (refine Z.s_is 20 rfl (show _ = Value.int .i64 (((pre ++ [ky130]).filter (hasA a)).length : Nat) from by rw [filt_t (show hasA a ky130 = true from hc136)]; rfl) ?_)
                                      | (refine Z.s_is 20 rfl (show _ = Value.int .i64 (((pre ++ [ky130]).filter (hasA a)).length : Nat) from by rw [filt_f (show hasA a ky130 = false from hc136)]) ?_)
                                      (refine Z.j_nextG (X := { x : (Array Nat) × (List Cell) // (x.2).Perm (Z.seenG (r.ver.zip bs129) (x.1)) }) (EE := (fun (x : { x : (Array Nat) × (List Cell) // (x.2).Perm (Z.seenG (r.ver.zip bs129) (x.1)) }) => [(1, v), (5, .pointer (some ⟨b5, 0, none⟩)), (6, .map (some b32)), (18, v111), (20, .int .i64 (((x.1.2).filter (hasA a)).length : Nat)), (129, .pointer (some ⟨r129, 0, none⟩))])) (LL := (fun (x : { x : (Array Nat) × (List Cell) // (x.2).Perm (Z.seenG (r.ver.zip bs129) (x.1)) }) => [Z.It r129 b32 clock129 (x.1.1), Z.MapB b32 Cell.e (Value.int .i64) r.ver bs129 clock129, RowP b5 r, Z.Own 3 1 v111 (inA r.ver a).length (i64s (inA r.ver a))])) (μ := (fun (x : { x : (Array Nat) × (List Cell) // (x.2).Perm (Z.seenG (r.ver.zip bs129) (x.1)) }) => Z.mleft bs129 (x.1.1))) (x := ⟨(seen, pre), hinv4⟩) ⟨(seen.push y130, pre ++ [ky130]), Z.seenG_push hz2 hq hns130 hpre⟩ ?_ ?_ ?_; (show Z.mleft bs129 (seen.push y130) < Z.mleft bs129 seen; omega); (exact (by repeat (first | exact trivial | refine ⟨rfl, ?_⟩))); (exact Z.st_td (by repeat (first | with_reducible exact Z.Takes.nil | (apply Z.Takes.cons; (repeat (first | with_reducible exact Z.Take.here | apply Z.Take.there))))) (by repeat (first | with_reducible exact Z.Drop.nil | apply Z.Drop.cons))))
                                  · try (with_reducible first | replace hc136 := of_decide_eq_true hc136 | replace hc136 := of_decide_eq_false hc136 | replace hc136 := Z.nd_true hc136 | replace hc136 := Z.nd_false hc136 | replace hc136 := Z.nn_true hc136 | replace hc136 := Z.nn_false hc136 | replace hc136 := Z.nb_true hc136 | replace hc136 := Z.nb_false hc136)
                                    first
                                    | (exfalso; first | (cases hc136; done) | omega)
                                    | skip
                                      refine Z.j_skip ?_
                                      refine Z.j_blk ?_
                                      refine Z.j_then ?_
                                      first
                                      | (refine Z.s_is 20 rfl (show _ = Value.int .i64 (((pre ++ [ky130]).filter (hasA a)).length : Nat) from by rw [filt_t (show hasA a ky130 = true from hc136)]; rfl) ?_)
                                      | (refine Z.s_is 20 rfl (show _ = Value.int .i64 (((pre ++ [ky130]).filter (hasA a)).length : Nat) from by rw [filt_f (show hasA a ky130 = false from hc136)]) ?_)
                                      (refine Z.j_nextG (X := { x : (Array Nat) × (List Cell) // (x.2).Perm (Z.seenG (r.ver.zip bs129) (x.1)) }) (EE := (fun (x : { x : (Array Nat) × (List Cell) // (x.2).Perm (Z.seenG (r.ver.zip bs129) (x.1)) }) => [(1, v), (5, .pointer (some ⟨b5, 0, none⟩)), (6, .map (some b32)), (18, v111), (20, .int .i64 (((x.1.2).filter (hasA a)).length : Nat)), (129, .pointer (some ⟨r129, 0, none⟩))])) (LL := (fun (x : { x : (Array Nat) × (List Cell) // (x.2).Perm (Z.seenG (r.ver.zip bs129) (x.1)) }) => [Z.It r129 b32 clock129 (x.1.1), Z.MapB b32 Cell.e (Value.int .i64) r.ver bs129 clock129, RowP b5 r, Z.Own 3 1 v111 (inA r.ver a).length (i64s (inA r.ver a))])) (μ := (fun (x : { x : (Array Nat) × (List Cell) // (x.2).Perm (Z.seenG (r.ver.zip bs129) (x.1)) }) => Z.mleft bs129 (x.1.1))) (x := ⟨(seen, pre), hinv4⟩) ⟨(seen.push y130, pre ++ [ky130]), Z.seenG_push hz2 hq hns130 hpre⟩ ?_ ?_ ?_; (show Z.mleft bs129 (seen.push y130) < Z.mleft bs129 seen; omega); (exact (by repeat (first | exact trivial | refine ⟨rfl, ?_⟩))); (exact Z.st_td (by repeat (first | with_reducible exact Z.Takes.nil | (apply Z.Takes.cons; (repeat (first | with_reducible exact Z.Take.here | apply Z.Take.there))))) (by repeat (first | with_reducible exact Z.Drop.nil | apply Z.Drop.cons))))
                              · exfalso; first | (cases hc131; done) | (simp at hc131; done) | (simp at hc131; omega) | (replace hc131 := of_decide_eq_true hc131; contradiction) | (replace hc131 := of_decide_eq_false hc131; contradiction)
                  · skip
                    refine Z.s_val (Z.pv_extract rfl rfl) ?_
                    refine Z.j_nil ?_
                    refine Z.j_then ?_
                    refine Z.j_seq ?_
                    refine Z.j_cond rfl (fun hc94 => ?_) (fun hc94 => ?_)
                    · try (with_reducible first | replace hc94 := of_decide_eq_true hc94 | replace hc94 := of_decide_eq_false hc94 | replace hc94 := Z.nd_true hc94 | replace hc94 := Z.nd_false hc94 | replace hc94 := Z.nn_true hc94 | replace hc94 := Z.nn_false hc94 | replace hc94 := Z.nb_true hc94 | replace hc94 := Z.nb_false hc94)
                      first
                      | (exfalso; first | (cases hc94; done) | omega)
                      | skip
                        have hmg := Z.mget_of_mem hok.nd (List.mem_of_getElem? hm93)
                        have hmv : Z.mval ky93 0 r.ver = vl93 := by simp [Z.mval, hmg]
                        refine Z.j_skip ?_
                        refine Z.j_then ?_
                        refine Z.j_block ?_
                        refine Z.j_seq ?_
                        refine Z.j_region ?_
                        refine Z.s_val (Z.pv_entry rfl hk92 hm93 hy93 (by repeat (first | with_reducible exact Z.Take.here | apply Z.Take.there)) (by repeat (first | with_reducible exact Z.Take.here | apply Z.Take.there))) ?_
                        refine Z.s_val (Z.pv_extract rfl rfl) ?_
                        refine Z.s_val (Z.pv_extract rfl rfl) ?_
                        refine Z.s_alloc Try.zeroValue36 (fun b14 => ?_)
                        refine Z.s_storeA rfl rfl Try.sizeOf36 rfl (by repeat (first | with_reducible exact Z.Upd.here | apply Z.Upd.there)) (by rfl) ?_
                        refine Z.s_val (Z.pv_assign rfl) ?_
                        refine Z.j_nil ?_
                        refine Z.j_then ?_
                        refine Z.j_seq ?_
                        refine Z.j_region ?_
                        refine Z.s_val (Z.pv_loadA rfl (by repeat (first | with_reducible exact Z.Take.here | apply Z.Take.there)) Try.isAgg36 Try.sizeOf36 (by rfl)) ?_
                        refine Z.s_callD rfl rfl rfl isFn14 (by repeat (first | with_reducible exact Z.Takes.nil | (apply Z.Takes.cons; (repeat (first | with_reducible exact Z.Take.here | apply Z.Take.there))))) (by repeat (first | exact Z.App.nil | apply Z.App.cons)) (version_spec _ _ r _ _) ?_
                        refine Z.s_val (Z.pv_move rfl) ?_
                        refine Z.s_val (Z.pv_extract rfl rfl) ?_
                        refine Z.s_val (Z.pv_extract rfl rfl) ?_
                        refine Z.s_val (Z.pv_assign rfl) ?_
                        refine Z.s_val (Z.pv_assign rfl) ?_
                        refine Z.j_nil ?_
                        refine Z.j_then ?_
                        refine Z.j_seq ?_
                        refine Z.j_region ?_
                        refine Z.s_val (Z.pv_move rfl) ?_
                        refine Z.s_val (Z.pv_not rfl) ?_
                        refine Z.s_val (Z.pv_move rfl) ?_
                        refine Z.s_is 105 rfl (show _ = Value.bool false from (congrArg (fun o => Value.bool (!Option.isSome o)) hmg)) ?_
                        refine Z.s_val (Z.pv_move rfl) ?_
                        refine Z.s_val (Z.pv_move rfl) ?_
                        refine Z.s_val (Z.pv_neq rfl rfl) ?_
                        refine Z.s_val (Z.pv_pick rfl rfl) ?_
                        refine Z.j_nil ?_
                        refine Z.j_then ?_
                        refine Z.j_cond rfl (fun hc109 => ?_) (fun hc109 => ?_)
                        · try (with_reducible first | replace hc109 := of_decide_eq_true hc109 | replace hc109 := of_decide_eq_false hc109 | replace hc109 := Z.nd_true hc109 | replace hc109 := Z.nd_false hc109 | replace hc109 := Z.nn_true hc109 | replace hc109 := Z.nn_false hc109 | replace hc109 := Z.nb_true hc109 | replace hc109 := Z.nb_false hc109)
                          first | (cases hc109; done) | exact absurd hmv hc109
                        · try (with_reducible first | replace hc109 := of_decide_eq_true hc109 | replace hc109 := of_decide_eq_false hc109 | replace hc109 := Z.nd_true hc109 | replace hc109 := Z.nd_false hc109 | replace hc109 := Z.nn_true hc109 | replace hc109 := Z.nn_false hc109 | replace hc109 := Z.nb_true hc109 | replace hc109 := Z.nb_false hc109)
                          first
                          | (exfalso; first | (cases hc109; done) | omega)
                          | skip
                            refine Z.j_skip ?_
                            refine Z.j_blk ?_
                            refine Z.j_then ?_
                            (refine Z.j_nextG (X := { x : (Array Nat) // True }) (EE := (fun (x : { x : (Array Nat) // True }) => [(1, v), (5, .pointer (some ⟨b5, 0, none⟩)), (6, .map (some b32)), (92, .pointer (some ⟨r92, 0, none⟩))])) (LL := (fun (x : { x : (Array Nat) // True }) => [Z.It r92 b32 clock92 (x.1), Z.MapB b32 Cell.e (Value.int .i64) r.ver bs92 clock92, RowP b5 r])) (μ := (fun (x : { x : (Array Nat) // True }) => Z.mleft bs92 (x.1))) (x := ⟨(seen), hinv2⟩) ⟨(seen.push y93), trivial⟩ ?_ ?_ ?_; (show Z.mleft bs92 (seen.push y93) < Z.mleft bs92 seen; omega); (exact (by repeat (first | exact trivial | refine ⟨rfl, ?_⟩))); (exact Z.st_td (by repeat (first | with_reducible exact Z.Takes.nil | (apply Z.Takes.cons; (repeat (first | with_reducible exact Z.Take.here | apply Z.Take.there))))) (by repeat (first | with_reducible exact Z.Drop.nil | apply Z.Drop.cons))))
                    · exfalso; first | (cases hc94; done) | (simp at hc94; done) | (simp at hc94; omega) | (replace hc94 := of_decide_eq_true hc94; contradiction) | (replace hc94 := of_decide_eq_false hc94; contradiction)
      · try (with_reducible first | replace hg27 := of_decide_eq_true hg27 | replace hg27 := of_decide_eq_false hg27 | replace hg27 := Z.nd_true hg27 | replace hg27 := Z.nd_false hg27 | replace hg27 := Z.nn_true hg27 | replace hg27 := Z.nn_false hg27 | replace hg27 := Z.nb_true hg27 | replace hg27 := Z.nb_false hg27)
        first
        | (exfalso; first | (cases hg27; done) | omega)
        | skip
          refine Z.s_val (Z.pv_move rfl) ?_
          refine Z.s_callD rfl rfl rfl isFn8 (by repeat (first | with_reducible exact Z.Takes.nil | (apply Z.Takes.cons; (repeat (first | with_reducible exact Z.Take.here | apply Z.Take.there))))) (by repeat (first | exact Z.App.nil | apply Z.App.cons)) (few_spec _ v a hA hao) ?_
          refine Z.s_val (Z.pv_not rfl) ?_
          refine Z.s_val (Z.pv_pick rfl rfl) ?_
          refine Z.j_nil ?_
          refine Z.j_then ?_
          refine Z.j_cond rfl (fun hc31 => ?_) (fun hc31 => ?_)
          · try (with_reducible first | replace hc31 := of_decide_eq_true hc31 | replace hc31 := of_decide_eq_false hc31 | replace hc31 := Z.nd_true hc31 | replace hc31 := Z.nd_false hc31 | replace hc31 := Z.nn_true hc31 | replace hc31 := Z.nn_false hc31 | replace hc31 := Z.nb_true hc31 | replace hc31 := Z.nb_false hc31)
            first
            | (exfalso; first | (cases hc31; done) | omega)
            | skip
              refine Z.j_seq ?_
              refine Z.j_region ?_
              refine Z.s_val (Z.pv_assign rfl) ?_
              refine Z.j_nil ?_
              refine Z.j_then ?_
              refine Z.j_ret ?_
              refine Z.j_then_ret ?_
              refine Z.j_doneM_ret (bs := []) .nil (Z.rv1 (Z.rv_tmp (t := 4) rfl)) ?_
              first | exact Z.post_of ⟨rfl, rfl⟩ (by repeat (first | with_reducible exact Z.Takes.nil | (apply Z.Takes.cons; (repeat (first | with_reducible exact Z.Take.here | apply Z.Take.there))))) (by repeat (first | with_reducible exact Z.Drop.nil | apply Z.Drop.cons)) | exact Z.post_of ⟨congrArg Value.bool (decide_eq_true rfl), rfl⟩ (by repeat (first | with_reducible exact Z.Takes.nil | (apply Z.Takes.cons; (repeat (first | with_reducible exact Z.Take.here | apply Z.Take.there))))) (by repeat (first | with_reducible exact Z.Drop.nil | apply Z.Drop.cons))
          · try (with_reducible first | replace hc31 := of_decide_eq_true hc31 | replace hc31 := of_decide_eq_false hc31 | replace hc31 := Z.nd_true hc31 | replace hc31 := Z.nd_false hc31 | replace hc31 := Z.nn_true hc31 | replace hc31 := Z.nn_false hc31 | replace hc31 := Z.nb_true hc31 | replace hc31 := Z.nb_false hc31)
            first
            | (exfalso; first | (cases hc31; done) | omega)
            | skip
              have hfew : fewA a = true := by first | exact hc31 | simpa using hc31
              have hn60 : n ≤ 60 := by omega
              refine Z.j_skip ?_
              refine Z.j_then ?_
              refine Z.j_seq ?_
              refine Z.j_region ?_
              refine Z.s_alloc Try.zeroValue29 (fun b5 => ?_)
              refine Z.j_nil ?_
              refine Z.j_then ?_
              refine Z.j_seq ?_
              refine Z.j_region ?_
              refine Z.s_makeMap Cell.e (Value.int .i64) (fun b32 => ?_)
              refine Z.s_val (Z.pv_assign rfl) ?_
              refine Z.j_nil ?_
              refine Z.j_then ?_
              refine Z.j_seq ?_
              refine Z.j_seq ?_
              refine Z.j_fold (A := RowP b5 (rt os 0)) (As := [Z.cl b5 29 [.map none, .map none, .int .i64 0]]) (by repeat (first | with_reducible exact Z.Takes.nil | (apply Z.Takes.cons; (repeat (first | with_reducible exact Z.Take.here | apply Z.Take.there))))) (fun _ H => rowP_none (r := RSt.z) rfl rfl H) ?_
              refine Z.j_cast (A := Z.MapP b32 Cell.e (Value.int .i64) []) (B := Z.MapP b32 Cell.e (Value.int .i64) (rt os 0).ver) (by repeat (first | with_reducible exact Z.Take.here | apply Z.Take.there)) rfl ?_
              refine Z.j_region ?_
              refine Z.s_val (Z.pv_move rfl) ?_
              refine Z.s_val (Z.pv_len rfl Try.underlying22) ?_
              refine Z.s_val (Z.pv_move rfl) ?_
              refine Z.j_nil ?_
              refine Z.j_then ?_
              refine Z.j_block ?_
              refine Z.j_initF (E' := [(0, .slice p n cap), (1, v), (5, .pointer (some ⟨b5, 0, none⟩)), (6, .map (some b32)), (33, .slice p n cap), (34, .int .i64 n), (35, .int .i64 ((0) : Nat))]) (As := [RowP b5 (rt os (0)), Z.MapP b32 Cell.e (Value.int .i64) (rt os (0)).ver]) (Fr := Fr) (by repeat (first | exact trivial | refine ⟨rfl, ?_⟩)) (by repeat (first | with_reducible exact Z.Takes.nil | (apply Z.Takes.cons; (repeat (first | with_reducible exact Z.Take.here | apply Z.Take.there))))) (by repeat (first | with_reducible exact Z.Drop.nil | apply Z.Drop.cons)) ?_
              refine Z.j_loop (X := { x : (Nat) // (x) ≤ n }) (fun (x : { x : (Nat) // (x) ≤ n }) => [(0, .slice p n cap), (1, v), (5, .pointer (some ⟨b5, 0, none⟩)), (6, .map (some b32)), (33, .slice p n cap), (34, .int .i64 n), (35, .int .i64 ((x.1) : Nat))]) (fun x => (fun (x : { x : (Nat) // (x) ≤ n }) => [RowP b5 (rt os (x.1)), Z.MapP b32 Cell.e (Value.int .i64) (rt os (x.1)).ver]) x ++ Fr) (fun (x : { x : (Nat) // (x) ≤ n }) => n - (x.1)) ⟨(0), by omega⟩ (fun x => ?_)
              obtain ⟨i, hinv⟩ := x
              have hinv' : i ≤ n := hinv
              have hi := hinv'
              show Z.J _ _ _ ([(0, .slice p n cap), (1, v), (5, .pointer (some ⟨b5, 0, none⟩)), (6, .map (some b32)), (33, .slice p n cap), (34, .int .i64 n), (35, .int .i64 (i : Nat))]) ([RowP b5 (rt os i), Z.MapP b32 Cell.e (Value.int .i64) (rt os i).ver] ++ Fr) _
              refine Z.j_app (by repeat (first | exact Z.App.nil | apply Z.App.cons)) ?_
              refine Z.j_seq ?_
              refine Z.j_region ?_
              refine Z.s_val (Z.pv_lss rfl rfl) ?_
              refine Z.j_nil ?_
              refine Z.j_then ?_
              refine Z.j_seq ?_
              refine Z.j_cond rfl (fun hc36 => ?_) (fun hc36 => ?_)
              · try (with_reducible first | replace hc36 := of_decide_eq_true hc36 | replace hc36 := of_decide_eq_false hc36 | replace hc36 := Z.nd_true hc36 | replace hc36 := Z.nd_false hc36 | replace hc36 := Z.nn_true hc36 | replace hc36 := Z.nn_false hc36 | replace hc36 := Z.nb_true hc36 | replace hc36 := Z.nb_false hc36)
                first
                | (exfalso; first | (cases hc36; done) | omega)
                | skip
                  obtain ⟨b1, o1, e1, hr1⟩ := hro (by omega)
                  refine Z.j_skip ?_
                  refine Z.j_then ?_
                  refine Z.j_seq ?_
                  refine Z.j_block ?_
                  refine Z.j_seq ?_
                  refine Z.j_region ?_
                  refine Z.s_val (Z.pv_move rfl) ?_
                  refine Z.s_val (Z.pv_indexAddr (o' := o1 + i * 3) (b := b1) (o := o1) (len := n) (cap := cap) (by show some (Value.slice p n cap) = _; rw [e1]) rfl Try.underlying22 Try.sizeOf38 (by omega) (by simp)) ?_
                  refine Z.s_val (Z.pv_loadAr (b := b1) (o := o1) (j := i * 3) rfl hr1 rfl Try.isAgg38 Try.sizeOf38 (slc_op (by omega))) ?_
                  refine Z.s_alloc Try.zeroValue38 (fun b8 => ?_)
                  refine Z.s_val (Z.pv_assign rfl) ?_
                  refine Z.s_storeA rfl rfl Try.sizeOf38 rfl (by repeat (first | with_reducible exact Z.Upd.here | apply Z.Upd.there)) (by rfl) ?_
                  refine Z.j_nil ?_
                  refine Z.j_then ?_
                  refine Z.j_seq ?_
                  refine Z.j_region ?_
                  refine Z.s_val (Z.pv_fieldAddr (o' := 0) rfl Try.underlying38 rfl Try.sizeOf3 rfl) ?_
                  refine Z.s_val (Z.pv_load1 rfl (by repeat (first | with_reducible exact Z.Take.here | apply Z.Take.there)) Try.isAgg3 (by rfl)) ?_
                  refine Z.s_val (Z.pv_eql rfl rfl) ?_
                  refine Z.s_val (Z.pv_move rfl) ?_
                  refine Z.s_split 43 rfl (fun hg43 => ?_) (fun hg43 => ?_)
                  · try (with_reducible first | replace hg43 := of_decide_eq_true hg43 | replace hg43 := of_decide_eq_false hg43 | replace hg43 := Z.nd_true hg43 | replace hg43 := Z.nd_false hg43 | replace hg43 := Z.nn_true hg43 | replace hg43 := Z.nn_false hg43 | replace hg43 := Z.nb_true hg43 | replace hg43 := Z.nb_false hg43)
                    first
                    | (exfalso; first | (cases hg43; done) | omega)
                    | skip
                      refine Z.s_skip ?_
                      refine Z.s_skip ?_
                      refine Z.s_skip ?_
                      refine Z.s_val (Z.pv_pick rfl rfl) ?_
                      refine Z.j_nil ?_
                      refine Z.j_then ?_
                      refine Z.j_cond rfl (fun hc47 => ?_) (fun hc47 => ?_)
                      · try (with_reducible first | replace hc47 := of_decide_eq_true hc47 | replace hc47 := of_decide_eq_false hc47 | replace hc47 := Z.nd_true hc47 | replace hc47 := Z.nd_false hc47 | replace hc47 := Z.nn_true hc47 | replace hc47 := Z.nn_false hc47 | replace hc47 := Z.nb_true hc47 | replace hc47 := Z.nb_false hc47)
                        first
                        | (exfalso; first | (cases hc47; done) | omega)
                        | skip
                          refine Z.j_seq ?_
                          obtain ⟨hok, hla, hKB⟩ := rt_ok hos i (by omega)
                          have hl0 := hok.l0
                          refine Z.j_region ?_
                          refine Z.s_val (Z.pv_fieldAddr (o' := 1) rfl Try.underlying38 rfl Try.sizeOf36 rfl) ?_
                          refine Z.s_val (Z.pv_loadA rfl (by repeat (first | with_reducible exact Z.Take.here | apply Z.Take.there)) Try.isAgg36 Try.sizeOf36 (by rfl)) ?_
                          refine Z.s_callD rfl rfl rfl isFn11 (by repeat (first | with_reducible exact Z.Takes.nil | (apply Z.Takes.cons; (repeat (first | with_reducible exact Z.Take.here | apply Z.Take.there))))) (by repeat (first | exact Z.App.nil | apply Z.App.cons)) (put_spec _ _ (rt os i) _ _ hok.l0 hok.l1) ?_
                          refine Z.s_val (Z.pv_assign rfl) ?_
                          refine Z.j_nil ?_
                          refine Z.j_then ?_
                          refine Z.j_seq ?_
                          refine Z.j_seq ?_
                          refine Z.j_region ?_
                          refine Z.s_val (Z.pv_move rfl) ?_
                          refine Z.s_range rfl Try.underlying26 (by repeat (first | with_reducible exact Z.Take.here | apply Z.Take.there)) (fun r52 bs52 clock52 hk52 => ?_)
                          refine Z.j_nil ?_
                          refine Z.j_then ?_
                          refine Z.j_block ?_
                          refine Z.j_initF (E' := [(0, .slice p n cap), (1, v), (5, .pointer (some ⟨b5, 0, none⟩)), (6, .map (some b32)), (33, .slice p n cap), (34, .int .i64 n), (35, .int .i64 (i : Nat)), (7, .int .i64 (i : Nat)), (8, .pointer (some ⟨b8, 0, none⟩)), (9, .int .i64 ((rt os i).last + 1)), (52, .pointer (some ⟨r52, 0, none⟩))]) (As := [Z.It r52 b32 clock52 (#[]), Z.MapB b32 Cell.e (Value.int .i64) (rt os i).ver bs52 clock52, RowP b5 ((rt os i).put (⟨(os.getD i OpR.z).l, (os.getD i OpR.z).k⟩ : Cell)), Z.cl b8 38 [.int .i64 (os.getD i OpR.z).kd, .int .i64 (os.getD i OpR.z).l, .int .u32 (os.getD i OpR.z).k]]) (Fr := Fr) (by repeat (first | exact trivial | refine ⟨rfl, ?_⟩)) (by repeat (first | with_reducible exact Z.Takes.nil | (apply Z.Takes.cons; (repeat (first | with_reducible exact Z.Take.here | apply Z.Take.there))))) (by repeat (first | with_reducible exact Z.Drop.nil | apply Z.Drop.cons)) ?_
                          refine Z.j_loop (X := { x : (Array Nat) // True }) (fun (x : { x : (Array Nat) // True }) => [(0, .slice p n cap), (1, v), (5, .pointer (some ⟨b5, 0, none⟩)), (6, .map (some b32)), (33, .slice p n cap), (34, .int .i64 n), (35, .int .i64 (i : Nat)), (7, .int .i64 (i : Nat)), (8, .pointer (some ⟨b8, 0, none⟩)), (9, .int .i64 ((rt os i).last + 1)), (52, .pointer (some ⟨r52, 0, none⟩))]) (fun x => (fun (x : { x : (Array Nat) // True }) => [Z.It r52 b32 clock52 (x.1), Z.MapB b32 Cell.e (Value.int .i64) (rt os i).ver bs52 clock52, RowP b5 ((rt os i).put (⟨(os.getD i OpR.z).l, (os.getD i OpR.z).k⟩ : Cell)), Z.cl b8 38 [.int .i64 (os.getD i OpR.z).kd, .int .i64 (os.getD i OpR.z).l, .int .u32 (os.getD i OpR.z).k]]) x ++ Fr) (fun (x : { x : (Array Nat) // True }) => Z.mleft bs52 (x.1)) ⟨(#[]), trivial⟩ (fun x => ?_)
                          obtain ⟨seen, hinv2⟩ := x
                          have hinv2' : True := hinv2
                          obtain _ := hinv2'
                          show Z.J _ _ _ ([(0, .slice p n cap), (1, v), (5, .pointer (some ⟨b5, 0, none⟩)), (6, .map (some b32)), (33, .slice p n cap), (34, .int .i64 n), (35, .int .i64 (i : Nat)), (7, .int .i64 (i : Nat)), (8, .pointer (some ⟨b8, 0, none⟩)), (9, .int .i64 ((rt os i).last + 1)), (52, .pointer (some ⟨r52, 0, none⟩))]) ([Z.It r52 b32 clock52 seen, Z.MapB b32 Cell.e (Value.int .i64) (rt os i).ver bs52 clock52, RowP b5 ((rt os i).put (⟨(os.getD i OpR.z).l, (os.getD i OpR.z).k⟩ : Cell)), Z.cl b8 38 [.int .i64 (os.getD i OpR.z).kd, .int .i64 (os.getD i OpR.z).l, .int .u32 (os.getD i OpR.z).k]] ++ Fr) _
                          refine Z.j_app (by repeat (first | exact Z.App.nil | apply Z.App.cons)) ?_
                          refine Z.j_seq ?_
                          refine Z.j_region ?_
                          refine Z.s_next rfl hk52 (by repeat (first | with_reducible exact Z.Take.here | apply Z.Take.there)) (fun _ => (by repeat (first | with_reducible exact Z.Upd.here | apply Z.Upd.there))) (fun hall53 => ?_) (fun ix53 ky53 vl53 y53 hm53 hy53 hns53 hlt53 => ?_)
                          · skip
                            refine Z.s_val (Z.pv_extract rfl rfl) ?_
                            refine Z.j_nil ?_
                            refine Z.j_then ?_
                            refine Z.j_seq ?_
                            refine Z.j_cond rfl (fun hc54 => ?_) (fun hc54 => ?_)
                            · exfalso; first | (cases hc54; done) | (simp at hc54; done) | (simp at hc54; omega) | (replace hc54 := of_decide_eq_true hc54; contradiction) | (replace hc54 := of_decide_eq_false hc54; contradiction)
                            · try (with_reducible first | replace hc54 := of_decide_eq_true hc54 | replace hc54 := of_decide_eq_false hc54 | replace hc54 := Z.nd_true hc54 | replace hc54 := Z.nd_false hc54 | replace hc54 := Z.nn_true hc54 | replace hc54 := Z.nn_false hc54 | replace hc54 := Z.nb_true hc54 | replace hc54 := Z.nb_false hc54)
                              first
                              | (exfalso; first | (cases hc54; done) | omega)
                              | skip
                                refine Z.j_exit ?_
                                refine Z.j_then_exit ?_
                                refine Z.j_then_exit ?_
                                refine Z.j_blk_here rfl ?_
                                refine Z.j_then ?_
                                refine Z.j_seq ?_
                                refine Z.j_seq ?_
                                refine Z.J.mapP_close (by repeat (first | with_reducible exact Z.Take.here | apply Z.Take.there)) hk52 ?_
                                refine Z.j_region ?_
                                refine Z.s_val (Z.pv_move rfl) ?_
                                refine Z.s_val (Z.pv_lss rfl rfl) ?_
                                refine Z.s_val (Z.pv_move rfl) ?_
                                refine Z.s_is 62 rfl (show _ = Value.bool false from (congrArg Value.bool (decide_eq_false (by omega)))) ?_
                                refine Z.s_val (Z.pv_move rfl) ?_
                                refine Z.s_val (Z.pv_move rfl) ?_
                                refine Z.s_val (Z.pv_add rfl rfl (by first | exact IntWalk.i64_in _ (by omega) | rfl)) ?_
                                refine Z.s_val (Z.pv_gtr rfl rfl) ?_
                                refine Z.s_val (Z.pv_pick rfl rfl) ?_
                                refine Z.j_nil ?_
                                refine Z.j_then ?_
                                refine Z.j_cond rfl (fun hc67 => ?_) (fun hc67 => ?_)
                                · try (with_reducible first | replace hc67 := of_decide_eq_true hc67 | replace hc67 := of_decide_eq_false hc67 | replace hc67 := Z.nd_true hc67 | replace hc67 := Z.nd_false hc67 | replace hc67 := Z.nn_true hc67 | replace hc67 := Z.nn_false hc67 | replace hc67 := Z.nb_true hc67 | replace hc67 := Z.nb_false hc67)
                                  first
                                  | (exfalso; first | (cases hc67; done) | omega)
                                  | skip
                                    refine Z.j_seq ?_
                                    refine Z.j_region ?_
                                    refine Z.s_val (Z.pv_assign rfl) ?_
                                    refine Z.j_nil ?_
                                    refine Z.j_then ?_
                                    refine Z.j_ret ?_
                                    refine Z.j_then_ret ?_
                                    refine Z.j_blk_ret ?_
                                    refine Z.j_then_ret ?_
                                    refine Z.j_then_ret ?_
                                    refine Z.j_blk_ret ?_
                                    refine Z.j_then_ret ?_
                                    refine Z.j_doneM_ret (bs := []) .nil (Z.rv1 (Z.rv_tmp (t := 4) rfl)) ?_
                                    first | exact Z.post_of ⟨rfl, rfl⟩ (by repeat (first | with_reducible exact Z.Takes.nil | (apply Z.Takes.cons; (repeat (first | with_reducible exact Z.Take.here | apply Z.Take.there))))) (by repeat (first | with_reducible exact Z.Drop.nil | apply Z.Drop.cons)) | exact Z.post_of ⟨congrArg Value.bool (decide_eq_true rfl), rfl⟩ (by repeat (first | with_reducible exact Z.Takes.nil | (apply Z.Takes.cons; (repeat (first | with_reducible exact Z.Take.here | apply Z.Take.there))))) (by repeat (first | with_reducible exact Z.Drop.nil | apply Z.Drop.cons))
                                · try (with_reducible first | replace hc67 := of_decide_eq_true hc67 | replace hc67 := of_decide_eq_false hc67 | replace hc67 := Z.nd_true hc67 | replace hc67 := Z.nd_false hc67 | replace hc67 := Z.nn_true hc67 | replace hc67 := Z.nn_false hc67 | replace hc67 := Z.nb_true hc67 | replace hc67 := Z.nb_false hc67)
                                  first
                                  | (exfalso; first | (cases hc67; done) | omega)
                                  | skip
                                    refine Z.j_skip ?_
                                    refine Z.j_then ?_
                                    refine Z.j_region ?_
                                    refine Z.s_val (Z.pv_move rfl) ?_
                                    refine Z.s_val (Z.pv_fieldAddr (o' := 1) rfl Try.underlying38 rfl Try.sizeOf36 rfl) ?_
                                    refine Z.s_val (Z.pv_loadA rfl (by repeat (first | with_reducible exact Z.Take.here | apply Z.Take.there)) Try.isAgg36 Try.sizeOf36 (by rfl)) ?_
                                    refine Z.s_val (Z.pv_move rfl) ?_
                                    refine Z.s_mapUpdate (k := (⟨(os.getD i OpR.z).l, (os.getD i OpR.z).k⟩ : Cell)) (v := (rt os i).last + 1) rfl rfl rfl Try.underlying26 kCell (by repeat (first | with_reducible exact Z.Take.here | apply Z.Take.there)) ?_
                                    refine Z.j_nil ?_
                                    refine Z.j_blk ?_
                                    refine Z.j_then ?_
                                    refine Z.j_region ?_
                                    refine Z.s_val (Z.pv_add rfl rfl (by first | exact IntWalk.i64_in _ (by omega) | rfl)) ?_
                                    refine Z.s_val (Z.pv_move rfl) ?_
                                    refine Z.j_nil ?_
                                    refine Z.j_then ?_
                                    first
                                    | (refine Z.j_cast (A := RowP b5 ((rt os i).put (⟨(os.getD i OpR.z).l, (os.getD i OpR.z).k⟩ : Cell))) (B := RowP b5 (rt os (i + 1))) (by repeat (first | with_reducible exact Z.Take.here | apply Z.Take.there)) (by rw [rt_put (by first | exact .inl hg43 | exact .inr hc47)]) ?_; refine Z.j_cast (A := Z.MapP b32 Cell.e (Value.int .i64) (Z.mput (⟨(os.getD i OpR.z).l, (os.getD i OpR.z).k⟩ : Cell) ((rt os i).last + 1) (rt os i).ver)) (B := Z.MapP b32 Cell.e (Value.int .i64) (rt os (i + 1)).ver) (by repeat (first | with_reducible exact Z.Take.here | apply Z.Take.there)) (by rw [← rt_put (by first | exact .inl hg43 | exact .inr hc47)]; rfl) ?_)
                                    | (refine Z.j_cast (A := RowP b5 ((rt os i).drop (⟨(os.getD i OpR.z).l, (os.getD i OpR.z).k⟩ : Cell))) (B := RowP b5 (rt os (i + 1))) (by repeat (first | with_reducible exact Z.Take.here | apply Z.Take.there)) (by rw [rt_drop (not_or.2 ⟨hg43, hc47⟩) hc74]) ?_; refine Z.j_cast (A := Z.MapP b32 Cell.e (Value.int .i64) (Z.mdel (⟨(os.getD i OpR.z).l, (os.getD i OpR.z).k⟩ : Cell) (rt os i).ver)) (B := Z.MapP b32 Cell.e (Value.int .i64) (rt os (i + 1)).ver) (by repeat (first | with_reducible exact Z.Take.here | apply Z.Take.there)) (by rw [← rt_drop (not_or.2 ⟨hg43, hc47⟩) hc74]; rfl) ?_)
                                    | (refine Z.j_cast (A := RowP b5 (rt os i)) (B := RowP b5 (rt os (i + 1))) (by repeat (first | with_reducible exact Z.Take.here | apply Z.Take.there)) (by rw [rt_same (not_or.2 ⟨hg43, hc47⟩) hc74]) ?_; refine Z.j_cast (A := Z.MapP b32 Cell.e (Value.int .i64) (rt os i).ver) (B := Z.MapP b32 Cell.e (Value.int .i64) (rt os (i + 1)).ver) (by repeat (first | with_reducible exact Z.Take.here | apply Z.Take.there)) (by rw [← rt_same (not_or.2 ⟨hg43, hc47⟩) hc74]) ?_)
                                    (refine Z.j_nextG (X := { x : (Nat) // (x) ≤ n }) (EE := (fun (x : { x : (Nat) // (x) ≤ n }) => [(0, .slice p n cap), (1, v), (5, .pointer (some ⟨b5, 0, none⟩)), (6, .map (some b32)), (33, .slice p n cap), (34, .int .i64 n), (35, .int .i64 ((x.1) : Nat))])) (LL := (fun (x : { x : (Nat) // (x) ≤ n }) => [RowP b5 (rt os (x.1)), Z.MapP b32 Cell.e (Value.int .i64) (rt os (x.1)).ver])) (μ := (fun (x : { x : (Nat) // (x) ≤ n }) => n - (x.1))) (x := ⟨(i), hinv⟩) ⟨(i + 1), by omega⟩ ?_ ?_ ?_; (show n - (i + 1) < n - i; omega); (exact (by repeat (first | exact trivial | refine ⟨rfl, ?_⟩))); (exact Z.st_td (by repeat (first | with_reducible exact Z.Takes.nil | (apply Z.Takes.cons; (repeat (first | with_reducible exact Z.Take.here | apply Z.Take.there))))) (by repeat (first | with_reducible exact Z.Drop.nil | apply Z.Drop.cons))))
                          · skip
                            refine Z.s_val (Z.pv_extract rfl rfl) ?_
                            refine Z.j_nil ?_
                            refine Z.j_then ?_
                            refine Z.j_seq ?_
                            refine Z.j_cond rfl (fun hc54 => ?_) (fun hc54 => ?_)
                            · try (with_reducible first | replace hc54 := of_decide_eq_true hc54 | replace hc54 := of_decide_eq_false hc54 | replace hc54 := Z.nd_true hc54 | replace hc54 := Z.nd_false hc54 | replace hc54 := Z.nn_true hc54 | replace hc54 := Z.nn_false hc54 | replace hc54 := Z.nb_true hc54 | replace hc54 := Z.nb_false hc54)
                              first
                              | (exfalso; first | (cases hc54; done) | omega)
                              | skip
                                have hle53 := (hok.le _ _ (Z.mget_of_mem hok.nd (List.mem_of_getElem? hm53))).2
                                refine Z.j_skip ?_
                                refine Z.j_then ?_
                                refine Z.j_block ?_
                                refine Z.j_seq ?_
                                refine Z.j_region ?_
                                refine Z.s_val (Z.pv_entry rfl hk52 hm53 hy53 (by repeat (first | with_reducible exact Z.Take.here | apply Z.Take.there)) (by repeat (first | with_reducible exact Z.Take.here | apply Z.Take.there))) ?_
                                refine Z.s_val (Z.pv_extract rfl rfl) ?_
                                refine Z.s_val (Z.pv_assign rfl) ?_
                                refine Z.j_nil ?_
                                refine Z.j_then ?_
                                refine Z.j_seq ?_
                                refine Z.j_region ?_
                                refine Z.s_val (Z.pv_move rfl) ?_
                                refine Z.s_val (Z.pv_move rfl) ?_
                                refine Z.s_val (Z.pv_eql rfl rfl) ?_
                                refine Z.j_nil ?_
                                refine Z.j_then ?_
                                refine Z.j_cond rfl (fun hc59 => ?_) (fun hc59 => ?_)
                                · try (with_reducible first | replace hc59 := of_decide_eq_true hc59 | replace hc59 := of_decide_eq_false hc59 | replace hc59 := Z.nd_true hc59 | replace hc59 := Z.nd_false hc59 | replace hc59 := Z.nn_true hc59 | replace hc59 := Z.nn_false hc59 | replace hc59 := Z.nb_true hc59 | replace hc59 := Z.nb_false hc59)
                                  first
                                  | (exfalso; first | (cases hc59; done) | omega)
                                  | skip
                                    refine Z.j_seq ?_
                                    refine Z.j_region ?_
                                    refine Z.s_val (Z.pv_assign rfl) ?_
                                    refine Z.j_nil ?_
                                    refine Z.j_then ?_
                                    refine Z.j_ret ?_
                                    refine Z.j_blk_ret ?_
                                    refine Z.j_then_ret ?_
                                    refine Z.j_blk_ret ?_
                                    refine Z.j_then_ret ?_
                                    refine Z.j_blk_ret ?_
                                    refine Z.j_then_ret ?_
                                    refine Z.j_then_ret ?_
                                    refine Z.j_blk_ret ?_
                                    refine Z.j_then_ret ?_
                                    refine Z.j_doneM_ret (bs := []) .nil (Z.rv1 (Z.rv_tmp (t := 4) rfl)) ?_
                                    first | exact Z.post_of ⟨rfl, rfl⟩ (by repeat (first | with_reducible exact Z.Takes.nil | (apply Z.Takes.cons; (repeat (first | with_reducible exact Z.Take.here | apply Z.Take.there))))) (by repeat (first | with_reducible exact Z.Drop.nil | apply Z.Drop.cons)) | exact Z.post_of ⟨congrArg Value.bool (decide_eq_true rfl), rfl⟩ (by repeat (first | with_reducible exact Z.Takes.nil | (apply Z.Takes.cons; (repeat (first | with_reducible exact Z.Take.here | apply Z.Take.there))))) (by repeat (first | with_reducible exact Z.Drop.nil | apply Z.Drop.cons))
                                · try (with_reducible first | replace hc59 := of_decide_eq_true hc59 | replace hc59 := of_decide_eq_false hc59 | replace hc59 := Z.nd_true hc59 | replace hc59 := Z.nd_false hc59 | replace hc59 := Z.nn_true hc59 | replace hc59 := Z.nn_false hc59 | replace hc59 := Z.nb_true hc59 | replace hc59 := Z.nb_false hc59)
                                  first
                                  | (exfalso; first | (cases hc59; done) | omega)
                                  | skip
                                    refine Z.j_skip ?_
                                    refine Z.j_blk ?_
                                    refine Z.j_then ?_
                                    (refine Z.j_nextG (X := { x : (Array Nat) // True }) (EE := (fun (x : { x : (Array Nat) // True }) => [(0, .slice p n cap), (1, v), (5, .pointer (some ⟨b5, 0, none⟩)), (6, .map (some b32)), (33, .slice p n cap), (34, .int .i64 n), (35, .int .i64 (i : Nat)), (7, .int .i64 (i : Nat)), (8, .pointer (some ⟨b8, 0, none⟩)), (9, .int .i64 ((rt os i).last + 1)), (52, .pointer (some ⟨r52, 0, none⟩))])) (LL := (fun (x : { x : (Array Nat) // True }) => [Z.It r52 b32 clock52 (x.1), Z.MapB b32 Cell.e (Value.int .i64) (rt os i).ver bs52 clock52, RowP b5 ((rt os i).put (⟨(os.getD i OpR.z).l, (os.getD i OpR.z).k⟩ : Cell)), Z.cl b8 38 [.int .i64 (os.getD i OpR.z).kd, .int .i64 (os.getD i OpR.z).l, .int .u32 (os.getD i OpR.z).k]])) (μ := (fun (x : { x : (Array Nat) // True }) => Z.mleft bs52 (x.1))) (x := ⟨(seen), hinv2⟩) ⟨(seen.push y53), trivial⟩ ?_ ?_ ?_; (show Z.mleft bs52 (seen.push y53) < Z.mleft bs52 seen; omega); (exact (by repeat (first | exact trivial | refine ⟨rfl, ?_⟩))); (exact Z.st_td (by repeat (first | with_reducible exact Z.Takes.nil | (apply Z.Takes.cons; (repeat (first | with_reducible exact Z.Take.here | apply Z.Take.there))))) (by repeat (first | with_reducible exact Z.Drop.nil | apply Z.Drop.cons))))
                            · exfalso; first | (cases hc54; done) | (simp at hc54; done) | (simp at hc54; omega) | (replace hc54 := of_decide_eq_true hc54; contradiction) | (replace hc54 := of_decide_eq_false hc54; contradiction)
                      · try (with_reducible first | replace hc47 := of_decide_eq_true hc47 | replace hc47 := of_decide_eq_false hc47 | replace hc47 := Z.nd_true hc47 | replace hc47 := Z.nd_false hc47 | replace hc47 := Z.nn_true hc47 | replace hc47 := Z.nn_false hc47 | replace hc47 := Z.nb_true hc47 | replace hc47 := Z.nb_false hc47)
                        first
                        | (exfalso; first | (cases hc47; done) | omega)
                        | skip
                          refine Z.j_seq ?_
                          refine Z.j_region ?_
                          refine Z.s_val (Z.pv_fieldAddr (o' := 0) rfl Try.underlying38 rfl Try.sizeOf3 rfl) ?_
                          refine Z.s_val (Z.pv_load1 rfl (by repeat (first | with_reducible exact Z.Take.here | apply Z.Take.there)) Try.isAgg3 (by rfl)) ?_
                          refine Z.s_val (Z.pv_eql rfl rfl) ?_
                          refine Z.j_nil ?_
                          refine Z.j_then ?_
                          refine Z.j_cond rfl (fun hc74 => ?_) (fun hc74 => ?_)
                          · try (with_reducible first | replace hc74 := of_decide_eq_true hc74 | replace hc74 := of_decide_eq_false hc74 | replace hc74 := Z.nd_true hc74 | replace hc74 := Z.nd_false hc74 | replace hc74 := Z.nn_true hc74 | replace hc74 := Z.nn_false hc74 | replace hc74 := Z.nb_true hc74 | replace hc74 := Z.nb_false hc74)
                            first
                            | (exfalso; first | (cases hc74; done) | omega)
                            | skip
                              refine Z.j_seq ?_
                              refine Z.j_region ?_
                              refine Z.s_val (Z.pv_move rfl) ?_
                              refine Z.s_val (Z.pv_fieldAddr (o' := 1) rfl Try.underlying38 rfl Try.sizeOf36 rfl) ?_
                              refine Z.s_val (Z.pv_loadA rfl (by repeat (first | with_reducible exact Z.Take.here | apply Z.Take.there)) Try.isAgg36 Try.sizeOf36 (by rfl)) ?_
                              refine Z.s_val (Z.pv_lookupOkZ (k := (⟨(os.getD i OpR.z).l, (os.getD i OpR.z).k⟩ : Cell)) (venc := Value.int .i64) (m := (rt os i).ver) 0 rfl rfl Try.underlying26 kCell Try.zeroValue3 (by repeat (first | with_reducible exact Z.Take.here | apply Z.Take.there))) ?_
                              refine Z.s_val (Z.pv_move rfl) ?_
                              refine Z.s_val (Z.pv_extract rfl rfl) ?_
                              refine Z.s_val (Z.pv_extract rfl rfl) ?_
                              refine Z.s_val (Z.pv_assign rfl) ?_
                              refine Z.s_val (Z.pv_assign rfl) ?_
                              refine Z.j_nil ?_
                              refine Z.j_then ?_
                              refine Z.j_seq ?_
                              refine Z.j_seq ?_
                              refine Z.j_region ?_
                              refine Z.s_val (Z.pv_fieldAddr (o' := 1) rfl Try.underlying38 rfl Try.sizeOf36 rfl) ?_
                              refine Z.s_val (Z.pv_loadA rfl (by repeat (first | with_reducible exact Z.Take.here | apply Z.Take.there)) Try.isAgg36 Try.sizeOf36 (by rfl)) ?_
                              refine Z.s_callD rfl rfl rfl isFn13 (by repeat (first | with_reducible exact Z.Takes.nil | (apply Z.Takes.cons; (repeat (first | with_reducible exact Z.Take.here | apply Z.Take.there))))) (by repeat (first | exact Z.App.nil | apply Z.App.cons)) (drop_spec _ _ (rt os i) _ _) ?_
                              refine Z.s_val (Z.pv_move rfl) ?_
                              refine Z.s_val (Z.pv_neqb rfl rfl Try.underlying4) ?_
                              refine Z.j_nil ?_
                              refine Z.j_then ?_
                              refine Z.j_cond rfl (fun hc86 => ?_) (fun hc86 => ?_)
                              · try (with_reducible first | replace hc86 := of_decide_eq_true hc86 | replace hc86 := of_decide_eq_false hc86 | replace hc86 := Z.nd_true hc86 | replace hc86 := Z.nd_false hc86 | replace hc86 := Z.nn_true hc86 | replace hc86 := Z.nn_false hc86 | replace hc86 := Z.nb_true hc86 | replace hc86 := Z.nb_false hc86)
                                exact absurd rfl hc86
                              · try (with_reducible first | replace hc86 := of_decide_eq_true hc86 | replace hc86 := of_decide_eq_false hc86 | replace hc86 := Z.nd_true hc86 | replace hc86 := Z.nd_false hc86 | replace hc86 := Z.nn_true hc86 | replace hc86 := Z.nn_false hc86 | replace hc86 := Z.nb_true hc86 | replace hc86 := Z.nb_false hc86)
                                first
                                | (exfalso; first | (cases hc86; done) | omega)
                                | skip
                                  refine Z.j_skip ?_
                                  refine Z.j_then ?_
                                  refine Z.j_region ?_
                                  refine Z.s_val (Z.pv_move rfl) ?_
                                  refine Z.s_val (Z.pv_fieldAddr (o' := 1) rfl Try.underlying38 rfl Try.sizeOf36 rfl) ?_
                                  refine Z.s_val (Z.pv_loadA rfl (by repeat (first | with_reducible exact Z.Take.here | apply Z.Take.there)) Try.isAgg36 Try.sizeOf36 (by rfl)) ?_
                                  refine Z.s_delete0 (k := (⟨(os.getD i OpR.z).l, (os.getD i OpR.z).k⟩ : Cell)) rfl rfl Try.underlying26 kCell (by repeat (first | with_reducible exact Z.Take.here | apply Z.Take.there)) ?_
                                  refine Z.j_nil ?_
                                  refine Z.j_blk ?_
                                  refine Z.j_then ?_
                                  refine Z.j_region ?_
                                  refine Z.s_val (Z.pv_add rfl rfl (by first | exact IntWalk.i64_in _ (by omega) | rfl)) ?_
                                  refine Z.s_val (Z.pv_move rfl) ?_
                                  refine Z.j_nil ?_
                                  refine Z.j_then ?_
                                  first
                                  | (refine Z.j_cast (A := RowP b5 ((rt os i).put (⟨(os.getD i OpR.z).l, (os.getD i OpR.z).k⟩ : Cell))) (B := RowP b5 (rt os (i + 1))) (by repeat (first | with_reducible exact Z.Take.here | apply Z.Take.there)) (by rw [rt_put (by first | exact .inl hg43 | exact .inr hc47)]) ?_; refine Z.j_cast (A := Z.MapP b32 Cell.e (Value.int .i64) (Z.mput (⟨(os.getD i OpR.z).l, (os.getD i OpR.z).k⟩ : Cell) ((rt os i).last + 1) (rt os i).ver)) (B := Z.MapP b32 Cell.e (Value.int .i64) (rt os (i + 1)).ver) (by repeat (first | with_reducible exact Z.Take.here | apply Z.Take.there)) (by rw [← rt_put (by first | exact .inl hg43 | exact .inr hc47)]; rfl) ?_)
                                  | (refine Z.j_cast (A := RowP b5 ((rt os i).drop (⟨(os.getD i OpR.z).l, (os.getD i OpR.z).k⟩ : Cell))) (B := RowP b5 (rt os (i + 1))) (by repeat (first | with_reducible exact Z.Take.here | apply Z.Take.there)) (by rw [rt_drop (not_or.2 ⟨hg43, hc47⟩) hc74]) ?_; refine Z.j_cast (A := Z.MapP b32 Cell.e (Value.int .i64) (Z.mdel (⟨(os.getD i OpR.z).l, (os.getD i OpR.z).k⟩ : Cell) (rt os i).ver)) (B := Z.MapP b32 Cell.e (Value.int .i64) (rt os (i + 1)).ver) (by repeat (first | with_reducible exact Z.Take.here | apply Z.Take.there)) (by rw [← rt_drop (not_or.2 ⟨hg43, hc47⟩) hc74]; rfl) ?_)
                                  | (refine Z.j_cast (A := RowP b5 (rt os i)) (B := RowP b5 (rt os (i + 1))) (by repeat (first | with_reducible exact Z.Take.here | apply Z.Take.there)) (by rw [rt_same (not_or.2 ⟨hg43, hc47⟩) hc74]) ?_; refine Z.j_cast (A := Z.MapP b32 Cell.e (Value.int .i64) (rt os i).ver) (B := Z.MapP b32 Cell.e (Value.int .i64) (rt os (i + 1)).ver) (by repeat (first | with_reducible exact Z.Take.here | apply Z.Take.there)) (by rw [← rt_same (not_or.2 ⟨hg43, hc47⟩) hc74]) ?_)
                                  (refine Z.j_nextG (X := { x : (Nat) // (x) ≤ n }) (EE := (fun (x : { x : (Nat) // (x) ≤ n }) => [(0, .slice p n cap), (1, v), (5, .pointer (some ⟨b5, 0, none⟩)), (6, .map (some b32)), (33, .slice p n cap), (34, .int .i64 n), (35, .int .i64 ((x.1) : Nat))])) (LL := (fun (x : { x : (Nat) // (x) ≤ n }) => [RowP b5 (rt os (x.1)), Z.MapP b32 Cell.e (Value.int .i64) (rt os (x.1)).ver])) (μ := (fun (x : { x : (Nat) // (x) ≤ n }) => n - (x.1))) (x := ⟨(i), hinv⟩) ⟨(i + 1), by omega⟩ ?_ ?_ ?_; (show n - (i + 1) < n - i; omega); (exact (by repeat (first | exact trivial | refine ⟨rfl, ?_⟩))); (exact Z.st_td (by repeat (first | with_reducible exact Z.Takes.nil | (apply Z.Takes.cons; (repeat (first | with_reducible exact Z.Take.here | apply Z.Take.there))))) (by repeat (first | with_reducible exact Z.Drop.nil | apply Z.Drop.cons))))
                          · try (with_reducible first | replace hc74 := of_decide_eq_true hc74 | replace hc74 := of_decide_eq_false hc74 | replace hc74 := Z.nd_true hc74 | replace hc74 := Z.nd_false hc74 | replace hc74 := Z.nn_true hc74 | replace hc74 := Z.nn_false hc74 | replace hc74 := Z.nb_true hc74 | replace hc74 := Z.nb_false hc74)
                            first
                            | (exfalso; first | (cases hc74; done) | omega)
                            | skip
                              refine Z.j_skip ?_
                              refine Z.j_blk ?_
                              refine Z.j_then ?_
                              refine Z.j_region ?_
                              refine Z.s_val (Z.pv_add rfl rfl (by first | exact IntWalk.i64_in _ (by omega) | rfl)) ?_
                              refine Z.s_val (Z.pv_move rfl) ?_
                              refine Z.j_nil ?_
                              refine Z.j_then ?_
                              first
                              | (refine Z.j_cast (A := RowP b5 ((rt os i).put (⟨(os.getD i OpR.z).l, (os.getD i OpR.z).k⟩ : Cell))) (B := RowP b5 (rt os (i + 1))) (by repeat (first | with_reducible exact Z.Take.here | apply Z.Take.there)) (by rw [rt_put (by first | exact .inl hg43 | exact .inr hc47)]) ?_; refine Z.j_cast (A := Z.MapP b32 Cell.e (Value.int .i64) (Z.mput (⟨(os.getD i OpR.z).l, (os.getD i OpR.z).k⟩ : Cell) ((rt os i).last + 1) (rt os i).ver)) (B := Z.MapP b32 Cell.e (Value.int .i64) (rt os (i + 1)).ver) (by repeat (first | with_reducible exact Z.Take.here | apply Z.Take.there)) (by rw [← rt_put (by first | exact .inl hg43 | exact .inr hc47)]; rfl) ?_)
                              | (refine Z.j_cast (A := RowP b5 ((rt os i).drop (⟨(os.getD i OpR.z).l, (os.getD i OpR.z).k⟩ : Cell))) (B := RowP b5 (rt os (i + 1))) (by repeat (first | with_reducible exact Z.Take.here | apply Z.Take.there)) (by rw [rt_drop (not_or.2 ⟨hg43, hc47⟩) hc74]) ?_; refine Z.j_cast (A := Z.MapP b32 Cell.e (Value.int .i64) (Z.mdel (⟨(os.getD i OpR.z).l, (os.getD i OpR.z).k⟩ : Cell) (rt os i).ver)) (B := Z.MapP b32 Cell.e (Value.int .i64) (rt os (i + 1)).ver) (by repeat (first | with_reducible exact Z.Take.here | apply Z.Take.there)) (by rw [← rt_drop (not_or.2 ⟨hg43, hc47⟩) hc74]; rfl) ?_)
                              | (refine Z.j_cast (A := RowP b5 (rt os i)) (B := RowP b5 (rt os (i + 1))) (by repeat (first | with_reducible exact Z.Take.here | apply Z.Take.there)) (by rw [rt_same (not_or.2 ⟨hg43, hc47⟩) hc74]) ?_; refine Z.j_cast (A := Z.MapP b32 Cell.e (Value.int .i64) (rt os i).ver) (B := Z.MapP b32 Cell.e (Value.int .i64) (rt os (i + 1)).ver) (by repeat (first | with_reducible exact Z.Take.here | apply Z.Take.there)) (by rw [← rt_same (not_or.2 ⟨hg43, hc47⟩) hc74]) ?_)
                              (refine Z.j_nextG (X := { x : (Nat) // (x) ≤ n }) (EE := (fun (x : { x : (Nat) // (x) ≤ n }) => [(0, .slice p n cap), (1, v), (5, .pointer (some ⟨b5, 0, none⟩)), (6, .map (some b32)), (33, .slice p n cap), (34, .int .i64 n), (35, .int .i64 ((x.1) : Nat))])) (LL := (fun (x : { x : (Nat) // (x) ≤ n }) => [RowP b5 (rt os (x.1)), Z.MapP b32 Cell.e (Value.int .i64) (rt os (x.1)).ver])) (μ := (fun (x : { x : (Nat) // (x) ≤ n }) => n - (x.1))) (x := ⟨(i), hinv⟩) ⟨(i + 1), by omega⟩ ?_ ?_ ?_; (show n - (i + 1) < n - i; omega); (exact (by repeat (first | exact trivial | refine ⟨rfl, ?_⟩))); (exact Z.st_td (by repeat (first | with_reducible exact Z.Takes.nil | (apply Z.Takes.cons; (repeat (first | with_reducible exact Z.Take.here | apply Z.Take.there))))) (by repeat (first | with_reducible exact Z.Drop.nil | apply Z.Drop.cons))))
                  · try (with_reducible first | replace hg43 := of_decide_eq_true hg43 | replace hg43 := of_decide_eq_false hg43 | replace hg43 := Z.nd_true hg43 | replace hg43 := Z.nd_false hg43 | replace hg43 := Z.nn_true hg43 | replace hg43 := Z.nn_false hg43 | replace hg43 := Z.nb_true hg43 | replace hg43 := Z.nb_false hg43)
                    first
                    | (exfalso; first | (cases hg43; done) | omega)
                    | skip
                      refine Z.s_val (Z.pv_fieldAddr (o' := 0) rfl Try.underlying38 rfl Try.sizeOf3 rfl) ?_
                      refine Z.s_val (Z.pv_load1 rfl (by repeat (first | with_reducible exact Z.Take.here | apply Z.Take.there)) Try.isAgg3 (by rfl)) ?_
                      refine Z.s_val (Z.pv_eql rfl rfl) ?_
                      refine Z.s_val (Z.pv_pick rfl rfl) ?_
                      refine Z.j_nil ?_
                      refine Z.j_then ?_
                      refine Z.j_cond rfl (fun hc47 => ?_) (fun hc47 => ?_)
                      · try (with_reducible first | replace hc47 := of_decide_eq_true hc47 | replace hc47 := of_decide_eq_false hc47 | replace hc47 := Z.nd_true hc47 | replace hc47 := Z.nd_false hc47 | replace hc47 := Z.nn_true hc47 | replace hc47 := Z.nn_false hc47 | replace hc47 := Z.nb_true hc47 | replace hc47 := Z.nb_false hc47)
                        first
                        | (exfalso; first | (cases hc47; done) | omega)
                        | skip
                          refine Z.j_seq ?_
                          obtain ⟨hok, hla, hKB⟩ := rt_ok hos i (by omega)
                          have hl0 := hok.l0
                          refine Z.j_region ?_
                          refine Z.s_val (Z.pv_fieldAddr (o' := 1) rfl Try.underlying38 rfl Try.sizeOf36 rfl) ?_
                          refine Z.s_val (Z.pv_loadA rfl (by repeat (first | with_reducible exact Z.Take.here | apply Z.Take.there)) Try.isAgg36 Try.sizeOf36 (by rfl)) ?_
                          refine Z.s_callD rfl rfl rfl isFn11 (by repeat (first | with_reducible exact Z.Takes.nil | (apply Z.Takes.cons; (repeat (first | with_reducible exact Z.Take.here | apply Z.Take.there))))) (by repeat (first | exact Z.App.nil | apply Z.App.cons)) (put_spec _ _ (rt os i) _ _ hok.l0 hok.l1) ?_
                          refine Z.s_val (Z.pv_assign rfl) ?_
                          refine Z.j_nil ?_
                          refine Z.j_then ?_
                          refine Z.j_seq ?_
                          refine Z.j_seq ?_
                          refine Z.j_region ?_
                          refine Z.s_val (Z.pv_move rfl) ?_
                          refine Z.s_range rfl Try.underlying26 (by repeat (first | with_reducible exact Z.Take.here | apply Z.Take.there)) (fun r52 bs52 clock52 hk52 => ?_)
                          refine Z.j_nil ?_
                          refine Z.j_then ?_
                          refine Z.j_block ?_
                          refine Z.j_initF (E' := [(0, .slice p n cap), (1, v), (5, .pointer (some ⟨b5, 0, none⟩)), (6, .map (some b32)), (33, .slice p n cap), (34, .int .i64 n), (35, .int .i64 (i : Nat)), (7, .int .i64 (i : Nat)), (8, .pointer (some ⟨b8, 0, none⟩)), (9, .int .i64 ((rt os i).last + 1)), (52, .pointer (some ⟨r52, 0, none⟩))]) (As := [Z.It r52 b32 clock52 (#[]), Z.MapB b32 Cell.e (Value.int .i64) (rt os i).ver bs52 clock52, RowP b5 ((rt os i).put (⟨(os.getD i OpR.z).l, (os.getD i OpR.z).k⟩ : Cell)), Z.cl b8 38 [.int .i64 (os.getD i OpR.z).kd, .int .i64 (os.getD i OpR.z).l, .int .u32 (os.getD i OpR.z).k]]) (Fr := Fr) (by repeat (first | exact trivial | refine ⟨rfl, ?_⟩)) (by repeat (first | with_reducible exact Z.Takes.nil | (apply Z.Takes.cons; (repeat (first | with_reducible exact Z.Take.here | apply Z.Take.there))))) (by repeat (first | with_reducible exact Z.Drop.nil | apply Z.Drop.cons)) ?_
                          refine Z.j_loop (X := { x : (Array Nat) // True }) (fun (x : { x : (Array Nat) // True }) => [(0, .slice p n cap), (1, v), (5, .pointer (some ⟨b5, 0, none⟩)), (6, .map (some b32)), (33, .slice p n cap), (34, .int .i64 n), (35, .int .i64 (i : Nat)), (7, .int .i64 (i : Nat)), (8, .pointer (some ⟨b8, 0, none⟩)), (9, .int .i64 ((rt os i).last + 1)), (52, .pointer (some ⟨r52, 0, none⟩))]) (fun x => (fun (x : { x : (Array Nat) // True }) => [Z.It r52 b32 clock52 (x.1), Z.MapB b32 Cell.e (Value.int .i64) (rt os i).ver bs52 clock52, RowP b5 ((rt os i).put (⟨(os.getD i OpR.z).l, (os.getD i OpR.z).k⟩ : Cell)), Z.cl b8 38 [.int .i64 (os.getD i OpR.z).kd, .int .i64 (os.getD i OpR.z).l, .int .u32 (os.getD i OpR.z).k]]) x ++ Fr) (fun (x : { x : (Array Nat) // True }) => Z.mleft bs52 (x.1)) ⟨(#[]), trivial⟩ (fun x => ?_)
                          obtain ⟨seen, hinv2⟩ := x
                          have hinv2' : True := hinv2
                          obtain _ := hinv2'
                          show Z.J _ _ _ ([(0, .slice p n cap), (1, v), (5, .pointer (some ⟨b5, 0, none⟩)), (6, .map (some b32)), (33, .slice p n cap), (34, .int .i64 n), (35, .int .i64 (i : Nat)), (7, .int .i64 (i : Nat)), (8, .pointer (some ⟨b8, 0, none⟩)), (9, .int .i64 ((rt os i).last + 1)), (52, .pointer (some ⟨r52, 0, none⟩))]) ([Z.It r52 b32 clock52 seen, Z.MapB b32 Cell.e (Value.int .i64) (rt os i).ver bs52 clock52, RowP b5 ((rt os i).put (⟨(os.getD i OpR.z).l, (os.getD i OpR.z).k⟩ : Cell)), Z.cl b8 38 [.int .i64 (os.getD i OpR.z).kd, .int .i64 (os.getD i OpR.z).l, .int .u32 (os.getD i OpR.z).k]] ++ Fr) _
                          refine Z.j_app (by repeat (first | exact Z.App.nil | apply Z.App.cons)) ?_
                          refine Z.j_seq ?_
                          refine Z.j_region ?_
                          refine Z.s_next rfl hk52 (by repeat (first | with_reducible exact Z.Take.here | apply Z.Take.there)) (fun _ => (by repeat (first | with_reducible exact Z.Upd.here | apply Z.Upd.there))) (fun hall53 => ?_) (fun ix53 ky53 vl53 y53 hm53 hy53 hns53 hlt53 => ?_)
                          · skip
                            refine Z.s_val (Z.pv_extract rfl rfl) ?_
                            refine Z.j_nil ?_
                            refine Z.j_then ?_
                            refine Z.j_seq ?_
                            refine Z.j_cond rfl (fun hc54 => ?_) (fun hc54 => ?_)
                            · exfalso; first | (cases hc54; done) | (simp at hc54; done) | (simp at hc54; omega) | (replace hc54 := of_decide_eq_true hc54; contradiction) | (replace hc54 := of_decide_eq_false hc54; contradiction)
                            · try (with_reducible first | replace hc54 := of_decide_eq_true hc54 | replace hc54 := of_decide_eq_false hc54 | replace hc54 := Z.nd_true hc54 | replace hc54 := Z.nd_false hc54 | replace hc54 := Z.nn_true hc54 | replace hc54 := Z.nn_false hc54 | replace hc54 := Z.nb_true hc54 | replace hc54 := Z.nb_false hc54)
                              first
                              | (exfalso; first | (cases hc54; done) | omega)
                              | skip
                                refine Z.j_exit ?_
                                refine Z.j_then_exit ?_
                                refine Z.j_then_exit ?_
                                refine Z.j_blk_here rfl ?_
                                refine Z.j_then ?_
                                refine Z.j_seq ?_
                                refine Z.j_seq ?_
                                refine Z.J.mapP_close (by repeat (first | with_reducible exact Z.Take.here | apply Z.Take.there)) hk52 ?_
                                refine Z.j_region ?_
                                refine Z.s_val (Z.pv_move rfl) ?_
                                refine Z.s_val (Z.pv_lss rfl rfl) ?_
                                refine Z.s_val (Z.pv_move rfl) ?_
                                refine Z.s_is 62 rfl (show _ = Value.bool false from (congrArg Value.bool (decide_eq_false (by omega)))) ?_
                                refine Z.s_val (Z.pv_move rfl) ?_
                                refine Z.s_val (Z.pv_move rfl) ?_
                                refine Z.s_val (Z.pv_add rfl rfl (by first | exact IntWalk.i64_in _ (by omega) | rfl)) ?_
                                refine Z.s_val (Z.pv_gtr rfl rfl) ?_
                                refine Z.s_val (Z.pv_pick rfl rfl) ?_
                                refine Z.j_nil ?_
                                refine Z.j_then ?_
                                refine Z.j_cond rfl (fun hc67 => ?_) (fun hc67 => ?_)
                                · try (with_reducible first | replace hc67 := of_decide_eq_true hc67 | replace hc67 := of_decide_eq_false hc67 | replace hc67 := Z.nd_true hc67 | replace hc67 := Z.nd_false hc67 | replace hc67 := Z.nn_true hc67 | replace hc67 := Z.nn_false hc67 | replace hc67 := Z.nb_true hc67 | replace hc67 := Z.nb_false hc67)
                                  first
                                  | (exfalso; first | (cases hc67; done) | omega)
                                  | skip
                                    refine Z.j_seq ?_
                                    refine Z.j_region ?_
                                    refine Z.s_val (Z.pv_assign rfl) ?_
                                    refine Z.j_nil ?_
                                    refine Z.j_then ?_
                                    refine Z.j_ret ?_
                                    refine Z.j_then_ret ?_
                                    refine Z.j_blk_ret ?_
                                    refine Z.j_then_ret ?_
                                    refine Z.j_then_ret ?_
                                    refine Z.j_blk_ret ?_
                                    refine Z.j_then_ret ?_
                                    refine Z.j_doneM_ret (bs := []) .nil (Z.rv1 (Z.rv_tmp (t := 4) rfl)) ?_
                                    first | exact Z.post_of ⟨rfl, rfl⟩ (by repeat (first | with_reducible exact Z.Takes.nil | (apply Z.Takes.cons; (repeat (first | with_reducible exact Z.Take.here | apply Z.Take.there))))) (by repeat (first | with_reducible exact Z.Drop.nil | apply Z.Drop.cons)) | exact Z.post_of ⟨congrArg Value.bool (decide_eq_true rfl), rfl⟩ (by repeat (first | with_reducible exact Z.Takes.nil | (apply Z.Takes.cons; (repeat (first | with_reducible exact Z.Take.here | apply Z.Take.there))))) (by repeat (first | with_reducible exact Z.Drop.nil | apply Z.Drop.cons))
                                · try (with_reducible first | replace hc67 := of_decide_eq_true hc67 | replace hc67 := of_decide_eq_false hc67 | replace hc67 := Z.nd_true hc67 | replace hc67 := Z.nd_false hc67 | replace hc67 := Z.nn_true hc67 | replace hc67 := Z.nn_false hc67 | replace hc67 := Z.nb_true hc67 | replace hc67 := Z.nb_false hc67)
                                  first
                                  | (exfalso; first | (cases hc67; done) | omega)
                                  | skip
                                    refine Z.j_skip ?_
                                    refine Z.j_then ?_
                                    refine Z.j_region ?_
                                    refine Z.s_val (Z.pv_move rfl) ?_
                                    refine Z.s_val (Z.pv_fieldAddr (o' := 1) rfl Try.underlying38 rfl Try.sizeOf36 rfl) ?_
                                    refine Z.s_val (Z.pv_loadA rfl (by repeat (first | with_reducible exact Z.Take.here | apply Z.Take.there)) Try.isAgg36 Try.sizeOf36 (by rfl)) ?_
                                    refine Z.s_val (Z.pv_move rfl) ?_
                                    refine Z.s_mapUpdate (k := (⟨(os.getD i OpR.z).l, (os.getD i OpR.z).k⟩ : Cell)) (v := (rt os i).last + 1) rfl rfl rfl Try.underlying26 kCell (by repeat (first | with_reducible exact Z.Take.here | apply Z.Take.there)) ?_
                                    refine Z.j_nil ?_
                                    refine Z.j_blk ?_
                                    refine Z.j_then ?_
                                    refine Z.j_region ?_
                                    refine Z.s_val (Z.pv_add rfl rfl (by first | exact IntWalk.i64_in _ (by omega) | rfl)) ?_
                                    refine Z.s_val (Z.pv_move rfl) ?_
                                    refine Z.j_nil ?_
                                    refine Z.j_then ?_
                                    first
                                    | (refine Z.j_cast (A := RowP b5 ((rt os i).put (⟨(os.getD i OpR.z).l, (os.getD i OpR.z).k⟩ : Cell))) (B := RowP b5 (rt os (i + 1))) (by repeat (first | with_reducible exact Z.Take.here | apply Z.Take.there)) (by rw [rt_put (by first | exact .inl hg43 | exact .inr hc47)]) ?_; refine Z.j_cast (A := Z.MapP b32 Cell.e (Value.int .i64) (Z.mput (⟨(os.getD i OpR.z).l, (os.getD i OpR.z).k⟩ : Cell) ((rt os i).last + 1) (rt os i).ver)) (B := Z.MapP b32 Cell.e (Value.int .i64) (rt os (i + 1)).ver) (by repeat (first | with_reducible exact Z.Take.here | apply Z.Take.there)) (by rw [← rt_put (by first | exact .inl hg43 | exact .inr hc47)]; rfl) ?_)
                                    | (refine Z.j_cast (A := RowP b5 ((rt os i).drop (⟨(os.getD i OpR.z).l, (os.getD i OpR.z).k⟩ : Cell))) (B := RowP b5 (rt os (i + 1))) (by repeat (first | with_reducible exact Z.Take.here | apply Z.Take.there)) (by rw [rt_drop (not_or.2 ⟨hg43, hc47⟩) hc74]) ?_; refine Z.j_cast (A := Z.MapP b32 Cell.e (Value.int .i64) (Z.mdel (⟨(os.getD i OpR.z).l, (os.getD i OpR.z).k⟩ : Cell) (rt os i).ver)) (B := Z.MapP b32 Cell.e (Value.int .i64) (rt os (i + 1)).ver) (by repeat (first | with_reducible exact Z.Take.here | apply Z.Take.there)) (by rw [← rt_drop (not_or.2 ⟨hg43, hc47⟩) hc74]; rfl) ?_)
                                    | (refine Z.j_cast (A := RowP b5 (rt os i)) (B := RowP b5 (rt os (i + 1))) (by repeat (first | with_reducible exact Z.Take.here | apply Z.Take.there)) (by rw [rt_same (not_or.2 ⟨hg43, hc47⟩) hc74]) ?_; refine Z.j_cast (A := Z.MapP b32 Cell.e (Value.int .i64) (rt os i).ver) (B := Z.MapP b32 Cell.e (Value.int .i64) (rt os (i + 1)).ver) (by repeat (first | with_reducible exact Z.Take.here | apply Z.Take.there)) (by rw [← rt_same (not_or.2 ⟨hg43, hc47⟩) hc74]) ?_)
                                    (refine Z.j_nextG (X := { x : (Nat) // (x) ≤ n }) (EE := (fun (x : { x : (Nat) // (x) ≤ n }) => [(0, .slice p n cap), (1, v), (5, .pointer (some ⟨b5, 0, none⟩)), (6, .map (some b32)), (33, .slice p n cap), (34, .int .i64 n), (35, .int .i64 ((x.1) : Nat))])) (LL := (fun (x : { x : (Nat) // (x) ≤ n }) => [RowP b5 (rt os (x.1)), Z.MapP b32 Cell.e (Value.int .i64) (rt os (x.1)).ver])) (μ := (fun (x : { x : (Nat) // (x) ≤ n }) => n - (x.1))) (x := ⟨(i), hinv⟩) ⟨(i + 1), by omega⟩ ?_ ?_ ?_; (show n - (i + 1) < n - i; omega); (exact (by repeat (first | exact trivial | refine ⟨rfl, ?_⟩))); (exact Z.st_td (by repeat (first | with_reducible exact Z.Takes.nil | (apply Z.Takes.cons; (repeat (first | with_reducible exact Z.Take.here | apply Z.Take.there))))) (by repeat (first | with_reducible exact Z.Drop.nil | apply Z.Drop.cons))))
                          · skip
                            refine Z.s_val (Z.pv_extract rfl rfl) ?_
                            refine Z.j_nil ?_
                            refine Z.j_then ?_
                            refine Z.j_seq ?_
                            refine Z.j_cond rfl (fun hc54 => ?_) (fun hc54 => ?_)
                            · try (with_reducible first | replace hc54 := of_decide_eq_true hc54 | replace hc54 := of_decide_eq_false hc54 | replace hc54 := Z.nd_true hc54 | replace hc54 := Z.nd_false hc54 | replace hc54 := Z.nn_true hc54 | replace hc54 := Z.nn_false hc54 | replace hc54 := Z.nb_true hc54 | replace hc54 := Z.nb_false hc54)
                              first
                              | (exfalso; first | (cases hc54; done) | omega)
                              | skip
                                have hle53 := (hok.le _ _ (Z.mget_of_mem hok.nd (List.mem_of_getElem? hm53))).2
                                refine Z.j_skip ?_
                                refine Z.j_then ?_
                                refine Z.j_block ?_
                                refine Z.j_seq ?_
                                refine Z.j_region ?_
                                refine Z.s_val (Z.pv_entry rfl hk52 hm53 hy53 (by repeat (first | with_reducible exact Z.Take.here | apply Z.Take.there)) (by repeat (first | with_reducible exact Z.Take.here | apply Z.Take.there))) ?_
                                refine Z.s_val (Z.pv_extract rfl rfl) ?_
                                refine Z.s_val (Z.pv_assign rfl) ?_
                                refine Z.j_nil ?_
                                refine Z.j_then ?_
                                refine Z.j_seq ?_
                                refine Z.j_region ?_
                                refine Z.s_val (Z.pv_move rfl) ?_
                                refine Z.s_val (Z.pv_move rfl) ?_
                                refine Z.s_val (Z.pv_eql rfl rfl) ?_
                                refine Z.j_nil ?_
                                refine Z.j_then ?_
                                refine Z.j_cond rfl (fun hc59 => ?_) (fun hc59 => ?_)
                                · try (with_reducible first | replace hc59 := of_decide_eq_true hc59 | replace hc59 := of_decide_eq_false hc59 | replace hc59 := Z.nd_true hc59 | replace hc59 := Z.nd_false hc59 | replace hc59 := Z.nn_true hc59 | replace hc59 := Z.nn_false hc59 | replace hc59 := Z.nb_true hc59 | replace hc59 := Z.nb_false hc59)
                                  first
                                  | (exfalso; first | (cases hc59; done) | omega)
                                  | skip
                                    refine Z.j_seq ?_
                                    refine Z.j_region ?_
                                    refine Z.s_val (Z.pv_assign rfl) ?_
                                    refine Z.j_nil ?_
                                    refine Z.j_then ?_
                                    refine Z.j_ret ?_
                                    refine Z.j_blk_ret ?_
                                    refine Z.j_then_ret ?_
                                    refine Z.j_blk_ret ?_
                                    refine Z.j_then_ret ?_
                                    refine Z.j_blk_ret ?_
                                    refine Z.j_then_ret ?_
                                    refine Z.j_then_ret ?_
                                    refine Z.j_blk_ret ?_
                                    refine Z.j_then_ret ?_
                                    refine Z.j_doneM_ret (bs := []) .nil (Z.rv1 (Z.rv_tmp (t := 4) rfl)) ?_
                                    first | exact Z.post_of ⟨rfl, rfl⟩ (by repeat (first | with_reducible exact Z.Takes.nil | (apply Z.Takes.cons; (repeat (first | with_reducible exact Z.Take.here | apply Z.Take.there))))) (by repeat (first | with_reducible exact Z.Drop.nil | apply Z.Drop.cons)) | exact Z.post_of ⟨congrArg Value.bool (decide_eq_true rfl), rfl⟩ (by repeat (first | with_reducible exact Z.Takes.nil | (apply Z.Takes.cons; (repeat (first | with_reducible exact Z.Take.here | apply Z.Take.there))))) (by repeat (first | with_reducible exact Z.Drop.nil | apply Z.Drop.cons))
                                · try (with_reducible first | replace hc59 := of_decide_eq_true hc59 | replace hc59 := of_decide_eq_false hc59 | replace hc59 := Z.nd_true hc59 | replace hc59 := Z.nd_false hc59 | replace hc59 := Z.nn_true hc59 | replace hc59 := Z.nn_false hc59 | replace hc59 := Z.nb_true hc59 | replace hc59 := Z.nb_false hc59)
                                  first
                                  | (exfalso; first | (cases hc59; done) | omega)
                                  | skip
                                    refine Z.j_skip ?_
                                    refine Z.j_blk ?_
                                    refine Z.j_then ?_
                                    (refine Z.j_nextG (X := { x : (Array Nat) // True }) (EE := (fun (x : { x : (Array Nat) // True }) => [(0, .slice p n cap), (1, v), (5, .pointer (some ⟨b5, 0, none⟩)), (6, .map (some b32)), (33, .slice p n cap), (34, .int .i64 n), (35, .int .i64 (i : Nat)), (7, .int .i64 (i : Nat)), (8, .pointer (some ⟨b8, 0, none⟩)), (9, .int .i64 ((rt os i).last + 1)), (52, .pointer (some ⟨r52, 0, none⟩))])) (LL := (fun (x : { x : (Array Nat) // True }) => [Z.It r52 b32 clock52 (x.1), Z.MapB b32 Cell.e (Value.int .i64) (rt os i).ver bs52 clock52, RowP b5 ((rt os i).put (⟨(os.getD i OpR.z).l, (os.getD i OpR.z).k⟩ : Cell)), Z.cl b8 38 [.int .i64 (os.getD i OpR.z).kd, .int .i64 (os.getD i OpR.z).l, .int .u32 (os.getD i OpR.z).k]])) (μ := (fun (x : { x : (Array Nat) // True }) => Z.mleft bs52 (x.1))) (x := ⟨(seen), hinv2⟩) ⟨(seen.push y53), trivial⟩ ?_ ?_ ?_; (show Z.mleft bs52 (seen.push y53) < Z.mleft bs52 seen; omega); (exact (by repeat (first | exact trivial | refine ⟨rfl, ?_⟩))); (exact Z.st_td (by repeat (first | with_reducible exact Z.Takes.nil | (apply Z.Takes.cons; (repeat (first | with_reducible exact Z.Take.here | apply Z.Take.there))))) (by repeat (first | with_reducible exact Z.Drop.nil | apply Z.Drop.cons))))
                            · exfalso; first | (cases hc54; done) | (simp at hc54; done) | (simp at hc54; omega) | (replace hc54 := of_decide_eq_true hc54; contradiction) | (replace hc54 := of_decide_eq_false hc54; contradiction)
                      · try (with_reducible first | replace hc47 := of_decide_eq_true hc47 | replace hc47 := of_decide_eq_false hc47 | replace hc47 := Z.nd_true hc47 | replace hc47 := Z.nd_false hc47 | replace hc47 := Z.nn_true hc47 | replace hc47 := Z.nn_false hc47 | replace hc47 := Z.nb_true hc47 | replace hc47 := Z.nb_false hc47)
                        first
                        | (exfalso; first | (cases hc47; done) | omega)
                        | skip
                          refine Z.j_seq ?_
                          refine Z.j_region ?_
                          refine Z.s_val (Z.pv_fieldAddr (o' := 0) rfl Try.underlying38 rfl Try.sizeOf3 rfl) ?_
                          refine Z.s_val (Z.pv_load1 rfl (by repeat (first | with_reducible exact Z.Take.here | apply Z.Take.there)) Try.isAgg3 (by rfl)) ?_
                          refine Z.s_val (Z.pv_eql rfl rfl) ?_
                          refine Z.j_nil ?_
                          refine Z.j_then ?_
                          refine Z.j_cond rfl (fun hc74 => ?_) (fun hc74 => ?_)
                          · try (with_reducible first | replace hc74 := of_decide_eq_true hc74 | replace hc74 := of_decide_eq_false hc74 | replace hc74 := Z.nd_true hc74 | replace hc74 := Z.nd_false hc74 | replace hc74 := Z.nn_true hc74 | replace hc74 := Z.nn_false hc74 | replace hc74 := Z.nb_true hc74 | replace hc74 := Z.nb_false hc74)
                            first
                            | (exfalso; first | (cases hc74; done) | omega)
                            | skip
                              refine Z.j_seq ?_
                              refine Z.j_region ?_
                              refine Z.s_val (Z.pv_move rfl) ?_
                              refine Z.s_val (Z.pv_fieldAddr (o' := 1) rfl Try.underlying38 rfl Try.sizeOf36 rfl) ?_
                              refine Z.s_val (Z.pv_loadA rfl (by repeat (first | with_reducible exact Z.Take.here | apply Z.Take.there)) Try.isAgg36 Try.sizeOf36 (by rfl)) ?_
                              refine Z.s_val (Z.pv_lookupOkZ (k := (⟨(os.getD i OpR.z).l, (os.getD i OpR.z).k⟩ : Cell)) (venc := Value.int .i64) (m := (rt os i).ver) 0 rfl rfl Try.underlying26 kCell Try.zeroValue3 (by repeat (first | with_reducible exact Z.Take.here | apply Z.Take.there))) ?_
                              refine Z.s_val (Z.pv_move rfl) ?_
                              refine Z.s_val (Z.pv_extract rfl rfl) ?_
                              refine Z.s_val (Z.pv_extract rfl rfl) ?_
                              refine Z.s_val (Z.pv_assign rfl) ?_
                              refine Z.s_val (Z.pv_assign rfl) ?_
                              refine Z.j_nil ?_
                              refine Z.j_then ?_
                              refine Z.j_seq ?_
                              refine Z.j_seq ?_
                              refine Z.j_region ?_
                              refine Z.s_val (Z.pv_fieldAddr (o' := 1) rfl Try.underlying38 rfl Try.sizeOf36 rfl) ?_
                              refine Z.s_val (Z.pv_loadA rfl (by repeat (first | with_reducible exact Z.Take.here | apply Z.Take.there)) Try.isAgg36 Try.sizeOf36 (by rfl)) ?_
                              refine Z.s_callD rfl rfl rfl isFn13 (by repeat (first | with_reducible exact Z.Takes.nil | (apply Z.Takes.cons; (repeat (first | with_reducible exact Z.Take.here | apply Z.Take.there))))) (by repeat (first | exact Z.App.nil | apply Z.App.cons)) (drop_spec _ _ (rt os i) _ _) ?_
                              refine Z.s_val (Z.pv_move rfl) ?_
                              refine Z.s_val (Z.pv_neqb rfl rfl Try.underlying4) ?_
                              refine Z.j_nil ?_
                              refine Z.j_then ?_
                              refine Z.j_cond rfl (fun hc86 => ?_) (fun hc86 => ?_)
                              · try (with_reducible first | replace hc86 := of_decide_eq_true hc86 | replace hc86 := of_decide_eq_false hc86 | replace hc86 := Z.nd_true hc86 | replace hc86 := Z.nd_false hc86 | replace hc86 := Z.nn_true hc86 | replace hc86 := Z.nn_false hc86 | replace hc86 := Z.nb_true hc86 | replace hc86 := Z.nb_false hc86)
                                exact absurd rfl hc86
                              · try (with_reducible first | replace hc86 := of_decide_eq_true hc86 | replace hc86 := of_decide_eq_false hc86 | replace hc86 := Z.nd_true hc86 | replace hc86 := Z.nd_false hc86 | replace hc86 := Z.nn_true hc86 | replace hc86 := Z.nn_false hc86 | replace hc86 := Z.nb_true hc86 | replace hc86 := Z.nb_false hc86)
                                first
                                | (exfalso; first | (cases hc86; done) | omega)
                                | skip
                                  refine Z.j_skip ?_
                                  refine Z.j_then ?_
                                  refine Z.j_region ?_
                                  refine Z.s_val (Z.pv_move rfl) ?_
                                  refine Z.s_val (Z.pv_fieldAddr (o' := 1) rfl Try.underlying38 rfl Try.sizeOf36 rfl) ?_
                                  refine Z.s_val (Z.pv_loadA rfl (by repeat (first | with_reducible exact Z.Take.here | apply Z.Take.there)) Try.isAgg36 Try.sizeOf36 (by rfl)) ?_
                                  refine Z.s_delete0 (k := (⟨(os.getD i OpR.z).l, (os.getD i OpR.z).k⟩ : Cell)) rfl rfl Try.underlying26 kCell (by repeat (first | with_reducible exact Z.Take.here | apply Z.Take.there)) ?_
                                  refine Z.j_nil ?_
                                  refine Z.j_blk ?_
                                  refine Z.j_then ?_
                                  refine Z.j_region ?_
                                  refine Z.s_val (Z.pv_add rfl rfl (by first | exact IntWalk.i64_in _ (by omega) | rfl)) ?_
                                  refine Z.s_val (Z.pv_move rfl) ?_
                                  refine Z.j_nil ?_
                                  refine Z.j_then ?_
                                  first
                                  | (refine Z.j_cast (A := RowP b5 ((rt os i).put (⟨(os.getD i OpR.z).l, (os.getD i OpR.z).k⟩ : Cell))) (B := RowP b5 (rt os (i + 1))) (by repeat (first | with_reducible exact Z.Take.here | apply Z.Take.there)) (by rw [rt_put (by first | exact .inl hg43 | exact .inr hc47)]) ?_; refine Z.j_cast (A := Z.MapP b32 Cell.e (Value.int .i64) (Z.mput (⟨(os.getD i OpR.z).l, (os.getD i OpR.z).k⟩ : Cell) ((rt os i).last + 1) (rt os i).ver)) (B := Z.MapP b32 Cell.e (Value.int .i64) (rt os (i + 1)).ver) (by repeat (first | with_reducible exact Z.Take.here | apply Z.Take.there)) (by rw [← rt_put (by first | exact .inl hg43 | exact .inr hc47)]; rfl) ?_)
                                  | (refine Z.j_cast (A := RowP b5 ((rt os i).drop (⟨(os.getD i OpR.z).l, (os.getD i OpR.z).k⟩ : Cell))) (B := RowP b5 (rt os (i + 1))) (by repeat (first | with_reducible exact Z.Take.here | apply Z.Take.there)) (by rw [rt_drop (not_or.2 ⟨hg43, hc47⟩) hc74]) ?_; refine Z.j_cast (A := Z.MapP b32 Cell.e (Value.int .i64) (Z.mdel (⟨(os.getD i OpR.z).l, (os.getD i OpR.z).k⟩ : Cell) (rt os i).ver)) (B := Z.MapP b32 Cell.e (Value.int .i64) (rt os (i + 1)).ver) (by repeat (first | with_reducible exact Z.Take.here | apply Z.Take.there)) (by rw [← rt_drop (not_or.2 ⟨hg43, hc47⟩) hc74]; rfl) ?_)
                                  | (refine Z.j_cast (A := RowP b5 (rt os i)) (B := RowP b5 (rt os (i + 1))) (by repeat (first | with_reducible exact Z.Take.here | apply Z.Take.there)) (by rw [rt_same (not_or.2 ⟨hg43, hc47⟩) hc74]) ?_; refine Z.j_cast (A := Z.MapP b32 Cell.e (Value.int .i64) (rt os i).ver) (B := Z.MapP b32 Cell.e (Value.int .i64) (rt os (i + 1)).ver) (by repeat (first | with_reducible exact Z.Take.here | apply Z.Take.there)) (by rw [← rt_same (not_or.2 ⟨hg43, hc47⟩) hc74]) ?_)
                                  (refine Z.j_nextG (X := { x : (Nat) // (x) ≤ n }) (EE := (fun (x : { x : (Nat) // (x) ≤ n }) => [(0, .slice p n cap), (1, v), (5, .pointer (some ⟨b5, 0, none⟩)), (6, .map (some b32)), (33, .slice p n cap), (34, .int .i64 n), (35, .int .i64 ((x.1) : Nat))])) (LL := (fun (x : { x : (Nat) // (x) ≤ n }) => [RowP b5 (rt os (x.1)), Z.MapP b32 Cell.e (Value.int .i64) (rt os (x.1)).ver])) (μ := (fun (x : { x : (Nat) // (x) ≤ n }) => n - (x.1))) (x := ⟨(i), hinv⟩) ⟨(i + 1), by omega⟩ ?_ ?_ ?_; (show n - (i + 1) < n - i; omega); (exact (by repeat (first | exact trivial | refine ⟨rfl, ?_⟩))); (exact Z.st_td (by repeat (first | with_reducible exact Z.Takes.nil | (apply Z.Takes.cons; (repeat (first | with_reducible exact Z.Take.here | apply Z.Take.there))))) (by repeat (first | with_reducible exact Z.Drop.nil | apply Z.Drop.cons))))
                          · try (with_reducible first | replace hc74 := of_decide_eq_true hc74 | replace hc74 := of_decide_eq_false hc74 | replace hc74 := Z.nd_true hc74 | replace hc74 := Z.nd_false hc74 | replace hc74 := Z.nn_true hc74 | replace hc74 := Z.nn_false hc74 | replace hc74 := Z.nb_true hc74 | replace hc74 := Z.nb_false hc74)
                            first
                            | (exfalso; first | (cases hc74; done) | omega)
                            | skip
                              refine Z.j_skip ?_
                              refine Z.j_blk ?_
                              refine Z.j_then ?_
                              refine Z.j_region ?_
                              refine Z.s_val (Z.pv_add rfl rfl (by first | exact IntWalk.i64_in _ (by omega) | rfl)) ?_
                              refine Z.s_val (Z.pv_move rfl) ?_
                              refine Z.j_nil ?_
                              refine Z.j_then ?_
                              first
                              | (refine Z.j_cast (A := RowP b5 ((rt os i).put (⟨(os.getD i OpR.z).l, (os.getD i OpR.z).k⟩ : Cell))) (B := RowP b5 (rt os (i + 1))) (by repeat (first | with_reducible exact Z.Take.here | apply Z.Take.there)) (by rw [rt_put (by first | exact .inl hg43 | exact .inr hc47)]) ?_; refine Z.j_cast (A := Z.MapP b32 Cell.e (Value.int .i64) (Z.mput (⟨(os.getD i OpR.z).l, (os.getD i OpR.z).k⟩ : Cell) ((rt os i).last + 1) (rt os i).ver)) (B := Z.MapP b32 Cell.e (Value.int .i64) (rt os (i + 1)).ver) (by repeat (first | with_reducible exact Z.Take.here | apply Z.Take.there)) (by rw [← rt_put (by first | exact .inl hg43 | exact .inr hc47)]; rfl) ?_)
                              | (refine Z.j_cast (A := RowP b5 ((rt os i).drop (⟨(os.getD i OpR.z).l, (os.getD i OpR.z).k⟩ : Cell))) (B := RowP b5 (rt os (i + 1))) (by repeat (first | with_reducible exact Z.Take.here | apply Z.Take.there)) (by rw [rt_drop (not_or.2 ⟨hg43, hc47⟩) hc74]) ?_; refine Z.j_cast (A := Z.MapP b32 Cell.e (Value.int .i64) (Z.mdel (⟨(os.getD i OpR.z).l, (os.getD i OpR.z).k⟩ : Cell) (rt os i).ver)) (B := Z.MapP b32 Cell.e (Value.int .i64) (rt os (i + 1)).ver) (by repeat (first | with_reducible exact Z.Take.here | apply Z.Take.there)) (by rw [← rt_drop (not_or.2 ⟨hg43, hc47⟩) hc74]; rfl) ?_)
                              | (refine Z.j_cast (A := RowP b5 (rt os i)) (B := RowP b5 (rt os (i + 1))) (by repeat (first | with_reducible exact Z.Take.here | apply Z.Take.there)) (by rw [rt_same (not_or.2 ⟨hg43, hc47⟩) hc74]) ?_; refine Z.j_cast (A := Z.MapP b32 Cell.e (Value.int .i64) (rt os i).ver) (B := Z.MapP b32 Cell.e (Value.int .i64) (rt os (i + 1)).ver) (by repeat (first | with_reducible exact Z.Take.here | apply Z.Take.there)) (by rw [← rt_same (not_or.2 ⟨hg43, hc47⟩) hc74]) ?_)
                              (refine Z.j_nextG (X := { x : (Nat) // (x) ≤ n }) (EE := (fun (x : { x : (Nat) // (x) ≤ n }) => [(0, .slice p n cap), (1, v), (5, .pointer (some ⟨b5, 0, none⟩)), (6, .map (some b32)), (33, .slice p n cap), (34, .int .i64 n), (35, .int .i64 ((x.1) : Nat))])) (LL := (fun (x : { x : (Nat) // (x) ≤ n }) => [RowP b5 (rt os (x.1)), Z.MapP b32 Cell.e (Value.int .i64) (rt os (x.1)).ver])) (μ := (fun (x : { x : (Nat) // (x) ≤ n }) => n - (x.1))) (x := ⟨(i), hinv⟩) ⟨(i + 1), by omega⟩ ?_ ?_ ?_; (show n - (i + 1) < n - i; omega); (exact (by repeat (first | exact trivial | refine ⟨rfl, ?_⟩))); (exact Z.st_td (by repeat (first | with_reducible exact Z.Takes.nil | (apply Z.Takes.cons; (repeat (first | with_reducible exact Z.Take.here | apply Z.Take.there))))) (by repeat (first | with_reducible exact Z.Drop.nil | apply Z.Drop.cons))))
              · try (with_reducible first | replace hc36 := of_decide_eq_true hc36 | replace hc36 := of_decide_eq_false hc36 | replace hc36 := Z.nd_true hc36 | replace hc36 := Z.nd_false hc36 | replace hc36 := Z.nn_true hc36 | replace hc36 := Z.nn_false hc36 | replace hc36 := Z.nb_true hc36 | replace hc36 := Z.nb_false hc36)
                first
                | (exfalso; first | (cases hc36; done) | omega)
                | skip
                  have hin : i = n := by omega
                  subst hin
                  obtain ⟨r, hr0⟩ : ∃ r, rt os i = r := ⟨_, rfl⟩
                  obtain ⟨hok, hla, hKB⟩ := rt_ok hos i (by omega)
                  rw [hr0] at hok hla hKB
                  rw [hr0]
                  have hl0 := hok.l0
                  have hlen := hok.len
                  have hil : (inA r.ver a).length ≤ r.ver.length := by rw [← outs_end (Nat.le_refl _)]; exact outs_len _ _ _
                  refine Z.j_exit ?_
                  refine Z.j_then_exit ?_
                  refine Z.j_then_exit ?_
                  refine Z.j_blk_here rfl ?_
                  refine Z.j_then ?_
                  refine Z.j_seq ?_
                  refine Z.j_seq ?_
                  refine Z.j_region ?_
                  refine Z.s_val (Z.pv_move rfl) ?_
                  refine Z.s_range rfl Try.underlying26 (by repeat (first | with_reducible exact Z.Take.here | apply Z.Take.there)) (fun r92 bs92 clock92 hk92 => ?_)
                  refine Z.j_nil ?_
                  refine Z.j_then ?_
                  refine Z.j_block ?_
                  refine Z.j_initF (E' := [(1, v), (5, .pointer (some ⟨b5, 0, none⟩)), (6, .map (some b32)), (92, .pointer (some ⟨r92, 0, none⟩))]) (As := [Z.It r92 b32 clock92 (#[]), Z.MapB b32 Cell.e (Value.int .i64) r.ver bs92 clock92, RowP b5 r]) (Fr := Fr) (by repeat (first | exact trivial | refine ⟨rfl, ?_⟩)) (by repeat (first | with_reducible exact Z.Takes.nil | (apply Z.Takes.cons; (repeat (first | with_reducible exact Z.Take.here | apply Z.Take.there))))) (by repeat (first | with_reducible exact Z.Drop.nil | apply Z.Drop.cons)) ?_
                  refine Z.j_loop (X := { x : (Array Nat) // True }) (fun (x : { x : (Array Nat) // True }) => [(1, v), (5, .pointer (some ⟨b5, 0, none⟩)), (6, .map (some b32)), (92, .pointer (some ⟨r92, 0, none⟩))]) (fun x => (fun (x : { x : (Array Nat) // True }) => [Z.It r92 b32 clock92 (x.1), Z.MapB b32 Cell.e (Value.int .i64) r.ver bs92 clock92, RowP b5 r]) x ++ Fr) (fun (x : { x : (Array Nat) // True }) => Z.mleft bs92 (x.1)) ⟨(#[]), trivial⟩ (fun x => ?_)
                  obtain ⟨seen, hinv2⟩ := x
                  have hinv2' : True := hinv2
                  obtain _ := hinv2'
                  show Z.J _ _ _ ([(1, v), (5, .pointer (some ⟨b5, 0, none⟩)), (6, .map (some b32)), (92, .pointer (some ⟨r92, 0, none⟩))]) ([Z.It r92 b32 clock92 seen, Z.MapB b32 Cell.e (Value.int .i64) r.ver bs92 clock92, RowP b5 r] ++ Fr) _
                  refine Z.j_app (by repeat (first | exact Z.App.nil | apply Z.App.cons)) ?_
                  refine Z.j_seq ?_
                  refine Z.j_region ?_
                  refine Z.s_next rfl hk92 (by repeat (first | with_reducible exact Z.Take.here | apply Z.Take.there)) (fun _ => (by repeat (first | with_reducible exact Z.Upd.here | apply Z.Upd.there))) (fun hall93 => ?_) (fun ix93 ky93 vl93 y93 hm93 hy93 hns93 hlt93 => ?_)
                  · skip
                    refine Z.s_val (Z.pv_extract rfl rfl) ?_
                    refine Z.j_nil ?_
                    refine Z.j_then ?_
                    refine Z.j_seq ?_
                    refine Z.j_cond rfl (fun hc94 => ?_) (fun hc94 => ?_)
                    · exfalso; first | (cases hc94; done) | (simp at hc94; done) | (simp at hc94; omega) | (replace hc94 := of_decide_eq_true hc94; contradiction) | (replace hc94 := of_decide_eq_false hc94; contradiction)
                    · try (with_reducible first | replace hc94 := of_decide_eq_true hc94 | replace hc94 := of_decide_eq_false hc94 | replace hc94 := Z.nd_true hc94 | replace hc94 := Z.nd_false hc94 | replace hc94 := Z.nn_true hc94 | replace hc94 := Z.nn_false hc94 | replace hc94 := Z.nb_true hc94 | replace hc94 := Z.nb_false hc94)
                      first
                      | (exfalso; first | (cases hc94; done) | omega)
                      | skip
                        refine Z.j_exit ?_
                        refine Z.j_then_exit ?_
                        refine Z.j_then_exit ?_
                        refine Z.j_blk_here rfl ?_
                        refine Z.j_then ?_
                        refine Z.j_seq ?_
                        refine Z.J.mapP_close (by repeat (first | with_reducible exact Z.Take.here | apply Z.Take.there)) hk92 ?_
                        refine Z.j_fold (A := Z.sep []) (As := []) (by repeat (first | with_reducible exact Z.Takes.nil | (apply Z.Takes.cons; (repeat (first | with_reducible exact Z.Take.here | apply Z.Take.there))))) (fun _ H => H) ?_
                        refine Z.j_region ?_
                        refine Z.s_val (Z.pv_move rfl) ?_
                        refine Z.s_call rfl rfl rfl isFn22 (by repeat (first | with_reducible exact Z.Takes.nil | (apply Z.Takes.cons; (repeat (first | with_reducible exact Z.Take.here | apply Z.Take.there))))) (in_spec _ _ r hok v a (Z.sep []) (fewA_nb hfew) (fun w R h => hA.up h)) ?_
                        rintro v111 _ rfl
                        refine Z.j_app (by repeat (first | exact Z.App.nil | apply Z.App.cons)) ?_
                        refine Z.s_val (Z.pv_assign rfl) ?_
                        refine Z.j_nil ?_
                        refine Z.j_then ?_
                        refine Z.j_seq ?_
                        refine Z.j_seq ?_
                        refine Z.j_region ?_
                        refine Z.s_val (Z.pv_assign rfl) ?_
                        refine Z.j_nil ?_
                        refine Z.j_then ?_
                        refine Z.j_block ?_
                        refine Z.j_initF (E' := [(1, v), (5, .pointer (some ⟨b5, 0, none⟩)), (6, .map (some b32)), (18, v111), (19, .int .i64 ((1) : Nat))]) (As := [Z.Own 3 1 v111 (inA r.ver a).length (i64s (inA r.ver a)), RowP b5 r, Z.MapP b32 Cell.e (Value.int .i64) r.ver]) (Fr := Fr) (by repeat (first | exact trivial | refine ⟨rfl, ?_⟩)) (by repeat (first | with_reducible exact Z.Takes.nil | (apply Z.Takes.cons; (repeat (first | with_reducible exact Z.Take.here | apply Z.Take.there))))) (by repeat (first | with_reducible exact Z.Drop.nil | apply Z.Drop.cons)) ?_
                        refine Z.j_loop (X := { x : (Nat) // 1 ≤ (x) ∧ ((x) ≤ (inA r.ver a).length ∨ (x) = 1) }) (fun (x : { x : (Nat) // 1 ≤ (x) ∧ ((x) ≤ (inA r.ver a).length ∨ (x) = 1) }) => [(1, v), (5, .pointer (some ⟨b5, 0, none⟩)), (6, .map (some b32)), (18, v111), (19, .int .i64 ((x.1) : Nat))]) (fun x => (fun (x : { x : (Nat) // 1 ≤ (x) ∧ ((x) ≤ (inA r.ver a).length ∨ (x) = 1) }) => [Z.Own 3 1 v111 (inA r.ver a).length (i64s (inA r.ver a)), RowP b5 r, Z.MapP b32 Cell.e (Value.int .i64) r.ver]) x ++ Fr) (fun (x : { x : (Nat) // 1 ≤ (x) ∧ ((x) ≤ (inA r.ver a).length ∨ (x) = 1) }) => (inA r.ver a).length - (x.1)) ⟨(1), ⟨by omega, .inr rfl⟩⟩ (fun x => ?_)
                        obtain ⟨j, hinv3⟩ := x
                        have hinv3' : 1 ≤ j ∧ (j ≤ (inA r.ver a).length ∨ j = 1) := hinv3
                        obtain ⟨hj1, hj2⟩ := hinv3'
                        show Z.J _ _ _ ([(1, v), (5, .pointer (some ⟨b5, 0, none⟩)), (6, .map (some b32)), (18, v111), (19, .int .i64 (j : Nat))]) ([Z.Own 3 1 v111 (inA r.ver a).length (i64s (inA r.ver a)), RowP b5 r, Z.MapP b32 Cell.e (Value.int .i64) r.ver] ++ Fr) _
                        refine Z.j_app (by repeat (first | exact Z.App.nil | apply Z.App.cons)) ?_
                        refine Z.j_seq ?_
                        refine Z.j_seq ?_
                        refine Z.j_region ?_
                        refine Z.s_val (Z.pv_move rfl) ?_
                        refine Z.s_val (Z.pv_move rfl) ?_
                        refine Z.s_val (Z.pv_lenO rfl (by repeat (first | with_reducible exact Z.Take.here | apply Z.Take.there)) Try.underlying48) ?_
                        refine Z.s_val (Z.pv_lss rfl rfl) ?_
                        refine Z.j_nil ?_
                        refine Z.j_then ?_
                        refine Z.j_cond rfl (fun hc115 => ?_) (fun hc115 => ?_)
                        · try (with_reducible first | replace hc115 := of_decide_eq_true hc115 | replace hc115 := of_decide_eq_false hc115 | replace hc115 := Z.nd_true hc115 | replace hc115 := Z.nd_false hc115 | replace hc115 := Z.nn_true hc115 | replace hc115 := Z.nn_false hc115 | replace hc115 := Z.nb_true hc115 | replace hc115 := Z.nb_false hc115)
                          first
                          | (exfalso; first | (cases hc115; done) | omega)
                          | skip
                            have hup := inA_step hok (a := a) (i := j) (by omega) (by omega)
                            refine Z.j_skip ?_
                            refine Z.j_then ?_
                            refine Z.j_seq ?_
                            refine Z.j_block ?_
                            refine Z.j_seq ?_
                            refine Z.j_unown (T := 3) (k := 1) (v := v111) (by repeat (first | with_reducible exact Z.Take.here | apply Z.Take.there)) (fun e1 e2 e3 => by exfalso; omega) (fun nb cap3 sp e1 e2 e3 => ?_)
                            refine Z.j_draw (vals := [_, _, _, _, _, _, _, _, _, _]) 10 (by kernel_rfl) (by kernel_rfl) rfl (by rfl) (Z.heads_cons (Z.hq_val (Z.pv_move (by rfl))) (Z.heads_cons (Z.hq_val (Z.pv_move (by rfl))) (Z.heads_cons (Z.hq_val (Z.pv_indexAddr (o' := j) (b := nb) (o := 0) (len := (inA r.ver a).length) (cap := cap3) (by show some v111 = _; rw [e1]) (by rfl) Try.underlying48 (by exact Try.sizeOf3) (by omega) (by simp))) (Z.heads_cons (Z.hq_val (Z.pv_load1 (by rfl) (by repeat (first | with_reducible exact Z.Take.here | apply Z.Take.there)) Try.isAgg3 (get_i64 sp (by omega)))) (Z.heads_cons (Z.hq_val (Z.pv_move (by rfl))) (Z.heads_cons (Z.hq_val (Z.pv_move (by rfl))) (Z.heads_cons (Z.hq_val (Z.pv_sub (by rfl) (by rfl) (by first | exact IntWalk.i64_in _ (by omega) | rfl))) (Z.heads_cons (Z.hq_val (Z.pv_indexAddr (o' := j - 1) (b := nb) (o := 0) (len := (inA r.ver a).length) (cap := cap3) (by show some v111 = _; rw [e1]) (by rfl) Try.underlying48 (by exact Try.sizeOf3) (by omega) (by omega))) (Z.heads_cons (Z.hq_val (Z.pv_load1 (by rfl) (by repeat (first | with_reducible exact Z.Take.here | apply Z.Take.there)) Try.isAgg3 (get_i64 sp (by omega)))) (Z.heads_cons (Z.hq_val (Z.pv_leq (by rfl) (by rfl))) Z.heads_nil)))))))))) ?_
                            refine Z.j_nil ?_
                            refine Z.j_then ?_
                            refine Z.j_cond rfl (fun hc127 => ?_) (fun hc127 => ?_)
                            · try (with_reducible first | replace hc127 := of_decide_eq_true hc127 | replace hc127 := of_decide_eq_false hc127 | replace hc127 := Z.nd_true hc127 | replace hc127 := Z.nd_false hc127 | replace hc127 := Z.nn_true hc127 | replace hc127 := Z.nn_false hc127 | replace hc127 := Z.nb_true hc127 | replace hc127 := Z.nb_false hc127)
                              first
                              | (exfalso; first | (cases hc127; done) | omega)
                              | skip
                                refine Z.j_seq ?_
                                refine Z.j_region ?_
                                refine Z.s_val (Z.pv_assign rfl) ?_
                                refine Z.j_nil ?_
                                refine Z.j_then ?_
                                refine Z.j_ret ?_
                                refine Z.j_blk_ret ?_
                                refine Z.j_then_ret ?_
                                refine Z.j_then_ret ?_
                                refine Z.j_blk_ret ?_
                                refine Z.j_then_ret ?_
                                refine Z.j_doneM_ret (bs := []) .nil (Z.rv1 (Z.rv_tmp (t := 4) rfl)) ?_
                                first | exact Z.post_of ⟨rfl, rfl⟩ (by repeat (first | with_reducible exact Z.Takes.nil | (apply Z.Takes.cons; (repeat (first | with_reducible exact Z.Take.here | apply Z.Take.there))))) (by repeat (first | with_reducible exact Z.Drop.nil | apply Z.Drop.cons)) | exact Z.post_of ⟨congrArg Value.bool (decide_eq_true rfl), rfl⟩ (by repeat (first | with_reducible exact Z.Takes.nil | (apply Z.Takes.cons; (repeat (first | with_reducible exact Z.Take.here | apply Z.Take.there))))) (by repeat (first | with_reducible exact Z.Drop.nil | apply Z.Drop.cons))
                            · try (with_reducible first | replace hc127 := of_decide_eq_true hc127 | replace hc127 := of_decide_eq_false hc127 | replace hc127 := Z.nd_true hc127 | replace hc127 := Z.nd_false hc127 | replace hc127 := Z.nn_true hc127 | replace hc127 := Z.nn_false hc127 | replace hc127 := Z.nb_true hc127 | replace hc127 := Z.nb_false hc127)
                              first
                              | (exfalso; first | (cases hc127; done) | omega)
                              | skip
                                refine Z.j_skip ?_
                                refine Z.j_blk ?_
                                refine Z.j_then ?_
                                refine Z.j_region ?_
                                refine Z.s_val (Z.pv_move rfl) ?_
                                refine Z.s_val (Z.pv_add rfl rfl (by first | exact IntWalk.i64_in _ (by omega) | rfl)) ?_
                                refine Z.s_val (Z.pv_assign rfl) ?_
                                refine Z.j_nil ?_
                                refine Z.j_then ?_
                                refine Z.j_own (T := 3) (k := 1) (m := (inA r.ver a).length) (cap := cap3) (c := i64s (inA r.ver a)) (sp := sp) (by repeat (first | with_reducible exact Z.Take.here | apply Z.Take.there)) e2 e3 ?_
                                rw [← e1]
                                (refine Z.j_nextG (X := { x : (Nat) // 1 ≤ (x) ∧ ((x) ≤ (inA r.ver a).length ∨ (x) = 1) }) (EE := (fun (x : { x : (Nat) // 1 ≤ (x) ∧ ((x) ≤ (inA r.ver a).length ∨ (x) = 1) }) => [(1, v), (5, .pointer (some ⟨b5, 0, none⟩)), (6, .map (some b32)), (18, v111), (19, .int .i64 ((x.1) : Nat))])) (LL := (fun (x : { x : (Nat) // 1 ≤ (x) ∧ ((x) ≤ (inA r.ver a).length ∨ (x) = 1) }) => [Z.Own 3 1 v111 (inA r.ver a).length (i64s (inA r.ver a)), RowP b5 r, Z.MapP b32 Cell.e (Value.int .i64) r.ver])) (μ := (fun (x : { x : (Nat) // 1 ≤ (x) ∧ ((x) ≤ (inA r.ver a).length ∨ (x) = 1) }) => (inA r.ver a).length - (x.1))) (x := ⟨(j), hinv3⟩) ⟨(j + 1), ⟨by omega, by omega⟩⟩ ?_ ?_ ?_; (show (inA r.ver a).length - (j + 1) < (inA r.ver a).length - j; omega); (exact (by repeat (first | exact trivial | refine ⟨rfl, ?_⟩))); (exact Z.st_td (by repeat (first | with_reducible exact Z.Takes.nil | (apply Z.Takes.cons; (repeat (first | with_reducible exact Z.Take.here | apply Z.Take.there))))) (by repeat (first | with_reducible exact Z.Drop.nil | apply Z.Drop.cons))))
                        · try (with_reducible first | replace hc115 := of_decide_eq_true hc115 | replace hc115 := of_decide_eq_false hc115 | replace hc115 := Z.nd_true hc115 | replace hc115 := Z.nd_false hc115 | replace hc115 := Z.nn_true hc115 | replace hc115 := Z.nn_false hc115 | replace hc115 := Z.nb_true hc115 | replace hc115 := Z.nb_false hc115)
                          first
                          | (exfalso; first | (cases hc115; done) | omega)
                          | skip
                            refine Z.j_exit ?_
                            refine Z.j_then_exit ?_
                            refine Z.j_then_exit ?_
                            refine Z.j_blk_here rfl ?_
                            refine Z.j_then ?_
                            refine Z.j_seq ?_
                            refine Z.j_region ?_
                            refine Z.s_val (Z.pv_assign rfl) ?_
                            refine Z.j_nil ?_
                            refine Z.j_then ?_
                            refine Z.j_seq ?_
                            refine Z.j_seq ?_
                            refine Z.j_region ?_
                            refine Z.s_val (Z.pv_move rfl) ?_
                            refine Z.s_range rfl Try.underlying26 (by repeat (first | with_reducible exact Z.Take.here | apply Z.Take.there)) (fun r129 bs129 clock129 hk129 => ?_)
                            refine Z.j_nil ?_
                            refine Z.j_then ?_
                            refine Z.j_block ?_
                            have hz2 : ((r.ver.zip bs129).map (·.2)).Nodup := by rw [Z.zip_snd hk129.1]; exact hk129.2.1
                            refine Z.j_initF (E' := [(1, v), (5, .pointer (some ⟨b5, 0, none⟩)), (6, .map (some b32)), (18, v111), (20, .int .i64 ((([]).filter (hasA a)).length : Nat)), (129, .pointer (some ⟨r129, 0, none⟩))]) (As := [Z.It r129 b32 clock129 (#[]), Z.MapB b32 Cell.e (Value.int .i64) r.ver bs129 clock129, RowP b5 r, Z.Own 3 1 v111 (inA r.ver a).length (i64s (inA r.ver a))]) (Fr := Fr) (by repeat (first | exact trivial | refine ⟨rfl, ?_⟩)) (by repeat (first | with_reducible exact Z.Takes.nil | (apply Z.Takes.cons; (repeat (first | with_reducible exact Z.Take.here | apply Z.Take.there))))) (by repeat (first | with_reducible exact Z.Drop.nil | apply Z.Drop.cons)) ?_
                            refine Z.j_loop (X := { x : (Array Nat) × (List Cell) // (x.2).Perm (Z.seenG (r.ver.zip bs129) (x.1)) }) (fun (x : { x : (Array Nat) × (List Cell) // (x.2).Perm (Z.seenG (r.ver.zip bs129) (x.1)) }) => [(1, v), (5, .pointer (some ⟨b5, 0, none⟩)), (6, .map (some b32)), (18, v111), (20, .int .i64 (((x.1.2).filter (hasA a)).length : Nat)), (129, .pointer (some ⟨r129, 0, none⟩))]) (fun x => (fun (x : { x : (Array Nat) × (List Cell) // (x.2).Perm (Z.seenG (r.ver.zip bs129) (x.1)) }) => [Z.It r129 b32 clock129 (x.1.1), Z.MapB b32 Cell.e (Value.int .i64) r.ver bs129 clock129, RowP b5 r, Z.Own 3 1 v111 (inA r.ver a).length (i64s (inA r.ver a))]) x ++ Fr) (fun (x : { x : (Array Nat) × (List Cell) // (x.2).Perm (Z.seenG (r.ver.zip bs129) (x.1)) }) => Z.mleft bs129 (x.1.1)) ⟨(#[], []), by rw [Z.seenG_nil]⟩ (fun x => ?_)
                            obtain ⟨⟨seen, pre⟩, hinv4⟩ := x
                            have hinv4' : pre.Perm (Z.seenG (r.ver.zip bs129) seen) := hinv4
                            have hpre := hinv4'
                            show Z.J _ _ _ ([(1, v), (5, .pointer (some ⟨b5, 0, none⟩)), (6, .map (some b32)), (18, v111), (20, .int .i64 ((pre.filter (hasA a)).length : Nat)), (129, .pointer (some ⟨r129, 0, none⟩))]) ([Z.It r129 b32 clock129 seen, Z.MapB b32 Cell.e (Value.int .i64) r.ver bs129 clock129, RowP b5 r, Z.Own 3 1 v111 (inA r.ver a).length (i64s (inA r.ver a))] ++ Fr) _
                            refine Z.j_app (by repeat (first | exact Z.App.nil | apply Z.App.cons)) ?_
                            refine Z.j_seq ?_
                            refine Z.j_region ?_
                            refine Z.s_next rfl hk129 (by repeat (first | with_reducible exact Z.Take.here | apply Z.Take.there)) (fun _ => (by repeat (first | with_reducible exact Z.Upd.here | apply Z.Upd.there))) (fun hall130 => ?_) (fun ix130 ky130 vl130 y130 hm130 hy130 hns130 hlt130 => ?_)
                            · skip
                              refine Z.s_val (Z.pv_extract rfl rfl) ?_
                              refine Z.j_nil ?_
                              refine Z.j_then ?_
                              refine Z.j_seq ?_
                              refine Z.j_cond rfl (fun hc131 => ?_) (fun hc131 => ?_)
                              · exfalso; first | (cases hc131; done) | (simp at hc131; done) | (simp at hc131; omega) | (replace hc131 := of_decide_eq_true hc131; contradiction) | (replace hc131 := of_decide_eq_false hc131; contradiction)
                              · try (with_reducible first | replace hc131 := of_decide_eq_true hc131 | replace hc131 := of_decide_eq_false hc131 | replace hc131 := Z.nd_true hc131 | replace hc131 := Z.nd_false hc131 | replace hc131 := Z.nn_true hc131 | replace hc131 := Z.nn_false hc131 | replace hc131 := Z.nb_true hc131 | replace hc131 := Z.nb_false hc131)
                                first
                                | (exfalso; first | (cases hc131; done) | omega)
                                | skip
                                  refine Z.j_exit ?_
                                  refine Z.j_then_exit ?_
                                  refine Z.j_then_exit ?_
                                  refine Z.j_blk_here rfl ?_
                                  refine Z.j_then ?_
                                  refine Z.j_seq ?_
                                  refine Z.J.mapP_close (by repeat (first | with_reducible exact Z.Take.here | apply Z.Take.there)) hk129 ?_
                                  have hpf : pre.Perm (Z.ks r.ver) := by rw [Z.zip_ks hk129.1, ← Z.seenG_all (seen := seen) (by rw [Z.zip_snd hk129.1]; exact hall130)]; exact hpre
                                  have hcnt : (pre.filter (hasA a)).length = (inA r.ver a).length := by rw [inA_len]; exact (hpf.filter _).length_eq
                                  refine Z.j_region ?_
                                  refine Z.s_val (Z.pv_move rfl) ?_
                                  refine Z.s_val (Z.pv_lenO rfl (by repeat (first | with_reducible exact Z.Take.here | apply Z.Take.there)) Try.underlying48) ?_
                                  refine Z.s_val (Z.pv_move rfl) ?_
                                  refine Z.s_val (Z.pv_eql rfl rfl) ?_
                                  refine Z.s_val (Z.pv_move rfl) ?_
                                  refine Z.s_is 143 rfl (show _ = Value.bool true from (congrArg Value.bool (decide_eq_true (by omega)))) ?_
                                  refine Z.s_callD rfl rfl rfl isFn20 (by repeat (first | with_reducible exact Z.Takes.nil | (apply Z.Takes.cons; (repeat (first | with_reducible exact Z.Take.here | apply Z.Take.there))))) (by repeat (first | exact Z.App.nil | apply Z.App.cons)) (live_spec _ _ r) ?_
                                  refine Z.s_val (Z.pv_move rfl) ?_
                                  refine Z.s_val (Z.pv_lenM rfl Try.underlying26 (by repeat (first | with_reducible exact Z.Take.here | apply Z.Take.there))) ?_
                                  refine Z.s_val (Z.pv_eql rfl rfl) ?_
                                  refine Z.s_val (Z.pv_pick rfl rfl) ?_
                                  refine Z.s_val (Z.pv_assign rfl) ?_
                                  refine Z.j_nil ?_
                                  refine Z.j_then ?_
                                  refine Z.j_ret ?_
                                  refine Z.j_doneM_ret (bs := []) .nil (Z.rv1 (Z.rv_tmp (t := 4) rfl)) ?_
                                  first | exact Z.post_of ⟨rfl, rfl⟩ (by repeat (first | with_reducible exact Z.Takes.nil | (apply Z.Takes.cons; (repeat (first | with_reducible exact Z.Take.here | apply Z.Take.there))))) (by repeat (first | with_reducible exact Z.Drop.nil | apply Z.Drop.cons)) | exact Z.post_of ⟨congrArg Value.bool (decide_eq_true rfl), rfl⟩ (by repeat (first | with_reducible exact Z.Takes.nil | (apply Z.Takes.cons; (repeat (first | with_reducible exact Z.Take.here | apply Z.Take.there))))) (by repeat (first | with_reducible exact Z.Drop.nil | apply Z.Drop.cons))
                            · skip
                              refine Z.s_val (Z.pv_extract rfl rfl) ?_
                              refine Z.j_nil ?_
                              refine Z.j_then ?_
                              refine Z.j_seq ?_
                              refine Z.j_cond rfl (fun hc131 => ?_) (fun hc131 => ?_)
                              · try (with_reducible first | replace hc131 := of_decide_eq_true hc131 | replace hc131 := of_decide_eq_false hc131 | replace hc131 := Z.nd_true hc131 | replace hc131 := Z.nd_false hc131 | replace hc131 := Z.nn_true hc131 | replace hc131 := Z.nn_false hc131 | replace hc131 := Z.nb_true hc131 | replace hc131 := Z.nb_false hc131)
                                first
                                | (exfalso; first | (cases hc131; done) | omega)
                                | skip
                                  have hmg := Z.mget_of_mem hok.nd (List.mem_of_getElem? hm130)
                                  have hkb := hKB ky130 (Z.mget_isSome.1 (by rw [hmg]; rfl))
                                  have hq : ((ky130, vl130), y130) ∈ r.ver.zip bs129 := List.mem_of_getElem? (i := ix130) (List.getElem?_zip_eq_some.2 ⟨hm130, hy130⟩)
                                  have hpl := (Z.seenG_ok (Z.zip_ks hk129.1) hpre).len
                                  simp at hpl
                                  have hfl := List.length_filter_le (hasA a) pre
                                  refine Z.j_skip ?_
                                  refine Z.j_then ?_
                                  refine Z.j_block ?_
                                  refine Z.j_seq ?_
                                  refine Z.j_region ?_
                                  refine Z.s_val (Z.pv_entry rfl hk129 hm130 hy130 (by repeat (first | with_reducible exact Z.Take.here | apply Z.Take.there)) (by repeat (first | with_reducible exact Z.Take.here | apply Z.Take.there))) ?_
                                  refine Z.s_val (Z.pv_extract rfl rfl) ?_
                                  refine Z.s_alloc Try.zeroValue36 (fun b21 => ?_)
                                  refine Z.s_storeA rfl rfl Try.sizeOf36 rfl (by repeat (first | with_reducible exact Z.Upd.here | apply Z.Upd.there)) (by rfl) ?_
                                  refine Z.j_nil ?_
                                  refine Z.j_then ?_
                                  refine Z.j_seq ?_
                                  refine Z.j_region ?_
                                  refine Z.s_val (Z.pv_move rfl) ?_
                                  refine Z.s_val (Z.pv_loadA rfl (by repeat (first | with_reducible exact Z.Take.here | apply Z.Take.there)) Try.isAgg36 Try.sizeOf36 (by rfl)) ?_
                                  refine Z.s_callD rfl rfl rfl isFn24 (by repeat (first | with_reducible exact Z.Takes.nil | (apply Z.Takes.cons; (repeat (first | with_reducible exact Z.Take.here | apply Z.Take.there))))) (by repeat (first | exact Z.App.nil | apply Z.App.cons)) (has7_spec _ v a hA hao _ _ hkb) ?_
                                  refine Z.j_nil ?_
                                  refine Z.j_then ?_
                                  refine Z.j_cond rfl (fun hc136 => ?_) (fun hc136 => ?_)
                                  · try (with_reducible first | replace hc136 := of_decide_eq_true hc136 | replace hc136 := of_decide_eq_false hc136 | replace hc136 := Z.nd_true hc136 | replace hc136 := Z.nd_false hc136 | replace hc136 := Z.nn_true hc136 | replace hc136 := Z.nn_false hc136 | replace hc136 := Z.nb_true hc136 | replace hc136 := Z.nb_false hc136)
                                    first
                                    | (exfalso; first | (cases hc136; done) | omega)
                                    | skip
                                      refine Z.j_region ?_
                                      refine Z.s_val (Z.pv_move rfl) ?_
                                      refine Z.s_val (Z.pv_add rfl rfl (by first | exact IntWalk.i64_in _ (by omega) | rfl)) ?_
                                      refine Z.s_val (Z.pv_assign rfl) ?_
                                      refine Z.j_nil ?_
                                      refine Z.j_blk ?_
                                      refine Z.j_then ?_
                                      first
                                      | (refine Z.s_is 20 rfl (show _ = Value.int .i64 (((pre ++ [ky130]).filter (hasA a)).length : Nat) from by rw [filt_t (show hasA a ky130 = true from hc136)]; rfl) ?_)
                                      | (refine Z.s_is 20 rfl (show _ = Value.int .i64 (((pre ++ [ky130]).filter (hasA a)).length : Nat) from by rw [filt_f (show hasA a ky130 = false from hc136)]) ?_)
                                      (refine Z.j_nextG (X := { x : (Array Nat) × (List Cell) // (x.2).Perm (Z.seenG (r.ver.zip bs129) (x.1)) }) (EE := (fun (x : { x : (Array Nat) × (List Cell) // (x.2).Perm (Z.seenG (r.ver.zip bs129) (x.1)) }) => [(1, v), (5, .pointer (some ⟨b5, 0, none⟩)), (6, .map (some b32)), (18, v111), (20, .int .i64 (((x.1.2).filter (hasA a)).length : Nat)), (129, .pointer (some ⟨r129, 0, none⟩))])) (LL := (fun (x : { x : (Array Nat) × (List Cell) // (x.2).Perm (Z.seenG (r.ver.zip bs129) (x.1)) }) => [Z.It r129 b32 clock129 (x.1.1), Z.MapB b32 Cell.e (Value.int .i64) r.ver bs129 clock129, RowP b5 r, Z.Own 3 1 v111 (inA r.ver a).length (i64s (inA r.ver a))])) (μ := (fun (x : { x : (Array Nat) × (List Cell) // (x.2).Perm (Z.seenG (r.ver.zip bs129) (x.1)) }) => Z.mleft bs129 (x.1.1))) (x := ⟨(seen, pre), hinv4⟩) ⟨(seen.push y130, pre ++ [ky130]), Z.seenG_push hz2 hq hns130 hpre⟩ ?_ ?_ ?_; (show Z.mleft bs129 (seen.push y130) < Z.mleft bs129 seen; omega); (exact (by repeat (first | exact trivial | refine ⟨rfl, ?_⟩))); (exact Z.st_td (by repeat (first | with_reducible exact Z.Takes.nil | (apply Z.Takes.cons; (repeat (first | with_reducible exact Z.Take.here | apply Z.Take.there))))) (by repeat (first | with_reducible exact Z.Drop.nil | apply Z.Drop.cons))))
                                  · try (with_reducible first | replace hc136 := of_decide_eq_true hc136 | replace hc136 := of_decide_eq_false hc136 | replace hc136 := Z.nd_true hc136 | replace hc136 := Z.nd_false hc136 | replace hc136 := Z.nn_true hc136 | replace hc136 := Z.nn_false hc136 | replace hc136 := Z.nb_true hc136 | replace hc136 := Z.nb_false hc136)
                                    first
                                    | (exfalso; first | (cases hc136; done) | omega)
                                    | skip
                                      refine Z.j_skip ?_
                                      refine Z.j_blk ?_
                                      refine Z.j_then ?_
                                      first
                                      | (refine Z.s_is 20 rfl (show _ = Value.int .i64 (((pre ++ [ky130]).filter (hasA a)).length : Nat) from by rw [filt_t (show hasA a ky130 = true from hc136)]; rfl) ?_)
                                      | (refine Z.s_is 20 rfl (show _ = Value.int .i64 (((pre ++ [ky130]).filter (hasA a)).length : Nat) from by rw [filt_f (show hasA a ky130 = false from hc136)]) ?_)
                                      (refine Z.j_nextG (X := { x : (Array Nat) × (List Cell) // (x.2).Perm (Z.seenG (r.ver.zip bs129) (x.1)) }) (EE := (fun (x : { x : (Array Nat) × (List Cell) // (x.2).Perm (Z.seenG (r.ver.zip bs129) (x.1)) }) => [(1, v), (5, .pointer (some ⟨b5, 0, none⟩)), (6, .map (some b32)), (18, v111), (20, .int .i64 (((x.1.2).filter (hasA a)).length : Nat)), (129, .pointer (some ⟨r129, 0, none⟩))])) (LL := (fun (x : { x : (Array Nat) × (List Cell) // (x.2).Perm (Z.seenG (r.ver.zip bs129) (x.1)) }) => [Z.It r129 b32 clock129 (x.1.1), Z.MapB b32 Cell.e (Value.int .i64) r.ver bs129 clock129, RowP b5 r, Z.Own 3 1 v111 (inA r.ver a).length (i64s (inA r.ver a))])) (μ := (fun (x : { x : (Array Nat) × (List Cell) // (x.2).Perm (Z.seenG (r.ver.zip bs129) (x.1)) }) => Z.mleft bs129 (x.1.1))) (x := ⟨(seen, pre), hinv4⟩) ⟨(seen.push y130, pre ++ [ky130]), Z.seenG_push hz2 hq hns130 hpre⟩ ?_ ?_ ?_; (show Z.mleft bs129 (seen.push y130) < Z.mleft bs129 seen; omega); (exact (by repeat (first | exact trivial | refine ⟨rfl, ?_⟩))); (exact Z.st_td (by repeat (first | with_reducible exact Z.Takes.nil | (apply Z.Takes.cons; (repeat (first | with_reducible exact Z.Take.here | apply Z.Take.there))))) (by repeat (first | with_reducible exact Z.Drop.nil | apply Z.Drop.cons))))
                              · exfalso; first | (cases hc131; done) | (simp at hc131; done) | (simp at hc131; omega) | (replace hc131 := of_decide_eq_true hc131; contradiction) | (replace hc131 := of_decide_eq_false hc131; contradiction)
                  · skip
                    refine Z.s_val (Z.pv_extract rfl rfl) ?_
                    refine Z.j_nil ?_
                    refine Z.j_then ?_
                    refine Z.j_seq ?_
                    refine Z.j_cond rfl (fun hc94 => ?_) (fun hc94 => ?_)
                    · try (with_reducible first | replace hc94 := of_decide_eq_true hc94 | replace hc94 := of_decide_eq_false hc94 | replace hc94 := Z.nd_true hc94 | replace hc94 := Z.nd_false hc94 | replace hc94 := Z.nn_true hc94 | replace hc94 := Z.nn_false hc94 | replace hc94 := Z.nb_true hc94 | replace hc94 := Z.nb_false hc94)
                      first
                      | (exfalso; first | (cases hc94; done) | omega)
                      | skip
                        have hmg := Z.mget_of_mem hok.nd (List.mem_of_getElem? hm93)
                        have hmv : Z.mval ky93 0 r.ver = vl93 := by simp [Z.mval, hmg]
                        refine Z.j_skip ?_
                        refine Z.j_then ?_
                        refine Z.j_block ?_
                        refine Z.j_seq ?_
                        refine Z.j_region ?_
                        refine Z.s_val (Z.pv_entry rfl hk92 hm93 hy93 (by repeat (first | with_reducible exact Z.Take.here | apply Z.Take.there)) (by repeat (first | with_reducible exact Z.Take.here | apply Z.Take.there))) ?_
                        refine Z.s_val (Z.pv_extract rfl rfl) ?_
                        refine Z.s_val (Z.pv_extract rfl rfl) ?_
                        refine Z.s_alloc Try.zeroValue36 (fun b14 => ?_)
                        refine Z.s_storeA rfl rfl Try.sizeOf36 rfl (by repeat (first | with_reducible exact Z.Upd.here | apply Z.Upd.there)) (by rfl) ?_
                        refine Z.s_val (Z.pv_assign rfl) ?_
                        refine Z.j_nil ?_
                        refine Z.j_then ?_
                        refine Z.j_seq ?_
                        refine Z.j_region ?_
                        refine Z.s_val (Z.pv_loadA rfl (by repeat (first | with_reducible exact Z.Take.here | apply Z.Take.there)) Try.isAgg36 Try.sizeOf36 (by rfl)) ?_
                        refine Z.s_callD rfl rfl rfl isFn14 (by repeat (first | with_reducible exact Z.Takes.nil | (apply Z.Takes.cons; (repeat (first | with_reducible exact Z.Take.here | apply Z.Take.there))))) (by repeat (first | exact Z.App.nil | apply Z.App.cons)) (version_spec _ _ r _ _) ?_
                        refine Z.s_val (Z.pv_move rfl) ?_
                        refine Z.s_val (Z.pv_extract rfl rfl) ?_
                        refine Z.s_val (Z.pv_extract rfl rfl) ?_
                        refine Z.s_val (Z.pv_assign rfl) ?_
                        refine Z.s_val (Z.pv_assign rfl) ?_
                        refine Z.j_nil ?_
                        refine Z.j_then ?_
                        refine Z.j_seq ?_
                        refine Z.j_region ?_
                        refine Z.s_val (Z.pv_move rfl) ?_
                        refine Z.s_val (Z.pv_not rfl) ?_
                        refine Z.s_val (Z.pv_move rfl) ?_
                        refine Z.s_is 105 rfl (show _ = Value.bool false from (congrArg (fun o => Value.bool (!Option.isSome o)) hmg)) ?_
                        refine Z.s_val (Z.pv_move rfl) ?_
                        refine Z.s_val (Z.pv_move rfl) ?_
                        refine Z.s_val (Z.pv_neq rfl rfl) ?_
                        refine Z.s_val (Z.pv_pick rfl rfl) ?_
                        refine Z.j_nil ?_
                        refine Z.j_then ?_
                        refine Z.j_cond rfl (fun hc109 => ?_) (fun hc109 => ?_)
                        · try (with_reducible first | replace hc109 := of_decide_eq_true hc109 | replace hc109 := of_decide_eq_false hc109 | replace hc109 := Z.nd_true hc109 | replace hc109 := Z.nd_false hc109 | replace hc109 := Z.nn_true hc109 | replace hc109 := Z.nn_false hc109 | replace hc109 := Z.nb_true hc109 | replace hc109 := Z.nb_false hc109)
                          first | (cases hc109; done) | exact absurd hmv hc109
                        · try (with_reducible first | replace hc109 := of_decide_eq_true hc109 | replace hc109 := of_decide_eq_false hc109 | replace hc109 := Z.nd_true hc109 | replace hc109 := Z.nd_false hc109 | replace hc109 := Z.nn_true hc109 | replace hc109 := Z.nn_false hc109 | replace hc109 := Z.nb_true hc109 | replace hc109 := Z.nb_false hc109)
                          first
                          | (exfalso; first | (cases hc109; done) | omega)
                          | skip
                            refine Z.j_skip ?_
                            refine Z.j_blk ?_
                            refine Z.j_then ?_
                            (refine Z.j_nextG (X := { x : (Array Nat) // True }) (EE := (fun (x : { x : (Array Nat) // True }) => [(1, v), (5, .pointer (some ⟨b5, 0, none⟩)), (6, .map (some b32)), (92, .pointer (some ⟨r92, 0, none⟩))])) (LL := (fun (x : { x : (Array Nat) // True }) => [Z.It r92 b32 clock92 (x.1), Z.MapB b32 Cell.e (Value.int .i64) r.ver bs92 clock92, RowP b5 r])) (μ := (fun (x : { x : (Array Nat) // True }) => Z.mleft bs92 (x.1))) (x := ⟨(seen), hinv2⟩) ⟨(seen.push y93), trivial⟩ ?_ ?_ ?_; (show Z.mleft bs92 (seen.push y93) < Z.mleft bs92 seen; omega); (exact (by repeat (first | exact trivial | refine ⟨rfl, ?_⟩))); (exact Z.st_td (by repeat (first | with_reducible exact Z.Takes.nil | (apply Z.Takes.cons; (repeat (first | with_reducible exact Z.Take.here | apply Z.Take.there))))) (by repeat (first | with_reducible exact Z.Drop.nil | apply Z.Drop.cons))))
                    · exfalso; first | (cases hc94; done) | (simp at hc94; done) | (simp at hc94; omega) | (replace hc94 := of_decide_eq_true hc94; contradiction) | (replace hc94 := of_decide_eq_false hc94; contradiction)

end Go.Proofs.Ytleofndjeekalaa
