/- Segtree: the tree's walks. -/
import Derived.Test.YtggndcaehjdklaaS1
namespace Go.Proofs.Ytggndcaehjdklaa
open Go Go.RowKit
set_option maxHeartbeats 4000000 in
set_option maxRecDepth 100000 in
theorem at_spec (w0 : World) (tb ab : Nat) (r : Int) (A : Ar) (i : Int) (hi : -2147483648 ≤ i ∧ i ≤ 2147483647) : Z.FnD Try.prog w0 25 [.pointer (some ⟨tb, 0, none⟩), .int .i32 i] [Z.cl tb 52 [.pointer (some ⟨ab, 0, none⟩), .int .i32 r], Arena ab A] (.agg (A.get i).c.toArray) [Z.cl tb 52 [.pointer (some ⟨ab, 0, none⟩), .int .i32 r], Arena ab A] := by
  refine Z.Fn.fnD ?_
  refine Z.fn_enter (n := 17) Try.func25 rfl (by rfl) (by rfl) (fun Fr => ?_)
  refine Z.j_app (by repeat (first | exact Z.App.nil | apply Z.App.cons)) ?_
  refine Z.j_seq ?_
  refine Z.j_region ?_
  refine Z.s_alloc Try.zeroValue69 (fun b4 => ?_)
  refine Z.j_nil ?_
  refine Z.j_then ?_
  refine Z.j_seq ?_
  refine Z.j_region ?_
  refine Z.s_val (Z.pv_move rfl) ?_
  refine Z.s_val (Z.pv_nil rfl) ?_
  refine Z.s_val (Z.pv_fieldAddr (o' := 0) rfl Try.underlying52 rfl Try.sizeOf48 rfl) ?_
  refine Z.s_val (Z.pv_load1 rfl (by repeat (first | with_reducible exact Z.Take.here | apply Z.Take.there)) Try.isAgg48 (by rfl)) ?_
  refine Z.s_val (Z.pv_move rfl) ?_
  refine Z.s_callD rfl rfl rfl isFn38 (by repeat (first | with_reducible exact Z.Takes.nil | (apply Z.Takes.cons; (repeat (first | with_reducible exact Z.Take.here | apply Z.Take.there))))) (by repeat (first | exact Z.App.nil | apply Z.App.cons)) (get_spec _ _ _ _ (by omega)) ?_
  refine Z.s_val (Z.pv_move rfl) ?_
  refine Z.s_val (Z.pv_extract rfl rfl) ?_
  refine Z.s_val (Z.pv_extract rfl rfl) ?_
  refine Z.s_alloc Try.zeroValue69 (fun b5 => ?_)
  refine Z.s_storeA rfl rfl Try.sizeOf69 rfl (by repeat (first | with_reducible exact Z.Upd.here | apply Z.Upd.there)) (by rfl) ?_
  refine Z.s_val (Z.pv_assign rfl) ?_
  refine Z.j_nil ?_
  refine Z.j_then ?_
  refine Z.j_seq ?_
  refine Z.j_region ?_
  refine Z.s_val (Z.pv_loadA rfl (by repeat (first | with_reducible exact Z.Take.here | apply Z.Take.there)) Try.isAgg69 Try.sizeOf69 (by rfl)) ?_
  refine Z.s_storeA rfl rfl Try.sizeOf69 rfl (by repeat (first | with_reducible exact Z.Upd.here | apply Z.Upd.there)) (by rfl) ?_
  refine Z.j_nil ?_
  refine Z.j_then ?_
  refine Z.j_ret ?_
  refine Z.j_done_ret (Z.rv1 (Z.rv_cellA (x := 4) (T := 69) rfl (by repeat (first | with_reducible exact Z.Take.here | apply Z.Take.there)) Try.isAgg69 Try.sizeOf69 (by rfl))) ?_
  exact Z.post_of ⟨rfl, rfl⟩ (by repeat (first | with_reducible exact Z.Takes.nil | (apply Z.Takes.cons; (repeat (first | with_reducible exact Z.Take.here | apply Z.Take.there))))) (by repeat (first | with_reducible exact Z.Drop.nil | apply Z.Drop.cons))

set_option maxHeartbeats 4000000 in
set_option maxRecDepth 100000 in
theorem arenaLen_spec (w0 : World) (ab : Nat) (A : Ar) : Z.FnD Try.prog w0 19 [.pointer (some ⟨ab, 0, none⟩)] [Arena ab A] (.int .i64 A.nodes.length) [Arena ab A] := by
  refine Z.Fn.fnD ?_
  refine Z.fn_enter (n := 8) Try.func19 rfl (by rfl) (by rfl) (fun Fr => ?_)
  refine Z.j_app (by repeat (first | exact Z.App.nil | apply Z.App.cons)) ?_
  refine Z.j_seq ?_
  refine Z.j_open (A := Arena ab A) (by repeat (first | with_reducible exact Z.Take.here | apply Z.Take.there)) (fun _ H => H) (fun v => ?_)
  refine Z.j_app (by repeat (first | exact Z.App.nil | apply Z.App.cons)) ?_
  refine Z.j_region ?_
  refine Z.s_val (Z.pv_assign rfl) ?_
  refine Z.j_nil ?_
  refine Z.j_then ?_
  refine Z.j_seq ?_
  refine Z.j_region ?_
  refine Z.s_val (Z.pv_move rfl) ?_
  refine Z.s_val (Z.pv_nil rfl) ?_
  refine Z.s_val (Z.pv_fieldAddr (o' := 0) rfl Try.underlying66 rfl Try.sizeOf64 rfl) ?_
  refine Z.s_val (Z.pv_load1 rfl (by repeat (first | with_reducible exact Z.Take.here | apply Z.Take.there)) Try.isAgg64 (by rfl)) ?_
  refine Z.s_val (Z.pv_lenO rfl (by repeat (first | with_reducible exact Z.Take.here | apply Z.Take.there)) Try.underlying64) ?_
  refine Z.s_val (Z.pv_assign rfl) ?_
  refine Z.j_nil ?_
  refine Z.j_then ?_
  refine Z.j_ret ?_
  refine Z.j_fold (A := Arena ab A) (by repeat (first | with_reducible exact Z.Takes.nil | (apply Z.Takes.cons; (repeat (first | with_reducible exact Z.Take.here | apply Z.Take.there))))) (fun _ H => ⟨v, H⟩) ?_
  refine Z.j_done_ret (Z.rv1 (Z.rv_tmp (t := 2) rfl)) ?_
  exact Z.post_of ⟨rfl, rfl⟩ (by repeat (first | with_reducible exact Z.Takes.nil | (apply Z.Takes.cons; (repeat (first | with_reducible exact Z.Take.here | apply Z.Take.there))))) (by repeat (first | with_reducible exact Z.Drop.nil | apply Z.Drop.cons))

set_option maxHeartbeats 4000000 in
set_option maxRecDepth 100000 in
theorem nodes_spec (w0 : World) (tb ab : Nat) (r : Int) (A : Ar) : Z.FnD Try.prog w0 7 [.pointer (some ⟨tb, 0, none⟩)] [Z.cl tb 52 [.pointer (some ⟨ab, 0, none⟩), .int .i32 r], Arena ab A] (.int .i64 A.nodes.length) [Z.cl tb 52 [.pointer (some ⟨ab, 0, none⟩), .int .i32 r], Arena ab A] := by
  refine Z.Fn.fnD ?_
  refine Z.fn_enter (n := 8) Try.func7 rfl (by rfl) (by rfl) (fun Fr => ?_)
  refine Z.j_app (by repeat (first | exact Z.App.nil | apply Z.App.cons)) ?_
  refine Z.j_seq ?_
  refine Z.j_region ?_
  refine Z.s_val (Z.pv_assign rfl) ?_
  refine Z.j_nil ?_
  refine Z.j_then ?_
  refine Z.j_seq ?_
  refine Z.j_region ?_
  refine Z.s_val (Z.pv_move rfl) ?_
  refine Z.s_val (Z.pv_nil rfl) ?_
  refine Z.s_val (Z.pv_fieldAddr (o' := 0) rfl Try.underlying52 rfl Try.sizeOf48 rfl) ?_
  refine Z.s_val (Z.pv_load1 rfl (by repeat (first | with_reducible exact Z.Take.here | apply Z.Take.there)) Try.isAgg48 (by rfl)) ?_
  refine Z.s_callD rfl rfl rfl isFn19 (by repeat (first | with_reducible exact Z.Takes.nil | (apply Z.Takes.cons; (repeat (first | with_reducible exact Z.Take.here | apply Z.Take.there))))) (by repeat (first | exact Z.App.nil | apply Z.App.cons)) (arenaLen_spec _ _ _) ?_
  refine Z.s_val (Z.pv_assign rfl) ?_
  refine Z.j_nil ?_
  refine Z.j_then ?_
  refine Z.j_ret ?_
  refine Z.j_done_ret (Z.rv1 (Z.rv_tmp (t := 2) rfl)) ?_
  exact Z.post_of ⟨rfl, rfl⟩ (by repeat (first | with_reducible exact Z.Takes.nil | (apply Z.Takes.cons; (repeat (first | with_reducible exact Z.Take.here | apply Z.Take.there))))) (by repeat (first | with_reducible exact Z.Drop.nil | apply Z.Drop.cons))

set_option maxHeartbeats 4000000 in
set_option maxRecDepth 100000 in
theorem right_spec (w0 : World) (key : Int) (h : Nat) (h1 : 1 ≤ h) (h2 : h ≤ 32) (hk : 0 ≤ key ∧ key < 4294967296) : Z.FnD Try.prog w0 29 [.int .u32 key, .int .i64 h] [] (.bool (rgt key h)) [] := by
  have hd := div_bd hk (h - 1)
  refine Z.Fn.fnD ?_
  refine Z.fn_enter (n := 11) Try.func29 rfl (by rfl) (by rfl) (fun Fr => ?_)
  refine Z.j_app (by repeat (first | exact Z.App.nil | apply Z.App.cons)) ?_
  refine Z.j_seq ?_
  refine Z.j_region ?_
  refine Z.s_val (Z.pv_assign rfl) ?_
  refine Z.j_nil ?_
  refine Z.j_then ?_
  refine Z.j_seq ?_
  refine Z.j_region ?_
  refine Z.s_val (Z.pv_move rfl) ?_
  refine Z.s_val (Z.pv_move rfl) ?_
  refine Z.s_val (Z.pv_sub rfl rfl (by first | exact IntWalk.i64_in _ (by omega) | rfl)) ?_
  refine Z.s_val (Z.pv_shr rfl rfl (by omega) (shr_u32 h1 h2)) ?_
  refine Z.s_val (Z.pv_bits rfl rfl (and_one hd)) ?_
  refine Z.s_val (Z.pv_eql rfl rfl) ?_
  refine Z.s_val (Z.pv_assign rfl) ?_
  refine Z.j_nil ?_
  refine Z.j_then ?_
  refine Z.j_ret ?_
  refine Z.j_done_ret (Z.rv1 (Z.rv_tmp (t := 4) rfl)) ?_
  exact Z.post_of ⟨rfl, rfl⟩ (by repeat (first | with_reducible exact Z.Takes.nil | (apply Z.Takes.cons; (repeat (first | with_reducible exact Z.Take.here | apply Z.Take.there))))) (by repeat (first | with_reducible exact Z.Drop.nil | apply Z.Drop.cons))

set_option maxHeartbeats 4000000 in
set_option maxRecDepth 100000 in
theorem child_spec (w0 : World) (m : Node) (key : Int) (h : Nat) (h1 : 1 ≤ h) (h2 : h ≤ 32) (hk : 0 ≤ key ∧ key < 4294967296) : Z.FnD Try.prog w0 24 [.agg m.c.toArray, .int .u32 key, .int .i64 h] [] (.int .i32 (m.child key h)) [] := by
  refine Z.Fn.fnD ?_
  refine Z.fn_enter (n := 14) Try.func24 rfl (by rfl) (by rfl) (fun Fr => ?_)
  refine Z.j_app (by repeat (first | exact Z.App.nil | apply Z.App.cons)) ?_
  refine Z.j_seq ?_
  refine Z.j_region ?_
  refine Z.s_box rfl (fun b3 => ?_)
  refine Z.s_val (Z.pv_assign rfl) ?_
  refine Z.j_nil ?_
  refine Z.j_then ?_
  refine Z.j_seq ?_
  refine Z.j_seq ?_
  refine Z.j_region ?_
  refine Z.s_val (Z.pv_move rfl) ?_
  refine Z.s_val (Z.pv_move rfl) ?_
  refine Z.s_callD rfl rfl rfl isFn29 (by repeat (first | with_reducible exact Z.Takes.nil | (apply Z.Takes.cons; (repeat (first | with_reducible exact Z.Take.here | apply Z.Take.there))))) (by repeat (first | exact Z.App.nil | apply Z.App.cons)) (right_spec _ _ _ (by omega) (by omega) (by assumption)) ?_
  refine Z.j_nil ?_
  refine Z.j_then ?_
  refine Z.j_cond rfl (fun hc9 => ?_) (fun hc9 => ?_)
  · try (with_reducible first | replace hc9 := of_decide_eq_true hc9 | replace hc9 := of_decide_eq_false hc9 | replace hc9 := Z.nd_true hc9 | replace hc9 := Z.nd_false hc9 | replace hc9 := Z.nn_true hc9 | replace hc9 := Z.nn_false hc9 | replace hc9 := Z.nb_true hc9 | replace hc9 := Z.nb_false hc9)
    first
    | (exfalso; first | (cases hc9; done) | omega)
    | skip
      refine Z.j_seq ?_
      refine Z.j_region ?_
      refine Z.s_val (Z.pv_fieldAddr (o' := 1) rfl Try.underlying69 rfl Try.sizeOf21 rfl) ?_
      refine Z.s_val (Z.pv_load1 rfl (by repeat (first | with_reducible exact Z.Take.here | apply Z.Take.there)) Try.isAgg21 (by rfl)) ?_
      refine Z.s_val (Z.pv_assign rfl) ?_
      refine Z.j_nil ?_
      refine Z.j_then ?_
      refine Z.j_ret ?_
      refine Z.j_then_ret ?_
      refine Z.j_done_ret (Z.rv1 (Z.rv_tmp (t := 6) rfl)) ?_
      exact Z.post_of ⟨by rw [Node.child, hc9]; rfl, rfl⟩ (by repeat (first | with_reducible exact Z.Takes.nil | (apply Z.Takes.cons; (repeat (first | with_reducible exact Z.Take.here | apply Z.Take.there))))) (by repeat (first | with_reducible exact Z.Drop.nil | apply Z.Drop.cons))
  · try (with_reducible first | replace hc9 := of_decide_eq_true hc9 | replace hc9 := of_decide_eq_false hc9 | replace hc9 := Z.nd_true hc9 | replace hc9 := Z.nd_false hc9 | replace hc9 := Z.nn_true hc9 | replace hc9 := Z.nn_false hc9 | replace hc9 := Z.nb_true hc9 | replace hc9 := Z.nb_false hc9)
    first
    | (exfalso; first | (cases hc9; done) | omega)
    | skip
      refine Z.j_skip ?_
      refine Z.j_then ?_
      refine Z.j_seq ?_
      refine Z.j_region ?_
      refine Z.s_val (Z.pv_fieldAddr (o' := 0) rfl Try.underlying69 rfl Try.sizeOf21 rfl) ?_
      refine Z.s_val (Z.pv_load1 rfl (by repeat (first | with_reducible exact Z.Take.here | apply Z.Take.there)) Try.isAgg21 (by rfl)) ?_
      refine Z.s_val (Z.pv_assign rfl) ?_
      refine Z.j_nil ?_
      refine Z.j_then ?_
      refine Z.j_ret ?_
      refine Z.j_done_ret (Z.rv1 (Z.rv_tmp (t := 6) rfl)) ?_
      exact Z.post_of ⟨by rw [Node.child, hc9]; rfl, rfl⟩ (by repeat (first | with_reducible exact Z.Takes.nil | (apply Z.Takes.cons; (repeat (first | with_reducible exact Z.Take.here | apply Z.Take.there))))) (by repeat (first | with_reducible exact Z.Drop.nil | apply Z.Drop.cons))

set_option maxHeartbeats 4000000 in
set_option maxRecDepth 100000 in
theorem kill_spec (w0 : World) (tb ab : Nat) (r : Int) (A : Ar) (i : Int) (hi : -2147483648 ≤ i ∧ i ≤ 2147483647) : Z.FnD Try.prog w0 37 [.pointer (some ⟨tb, 0, none⟩), .int .i32 i] [Z.cl tb 52 [.pointer (some ⟨ab, 0, none⟩), .int .i32 r], Arena ab A] (.tuple #[]) [Z.cl tb 52 [.pointer (some ⟨ab, 0, none⟩), .int .i32 r], Arena ab (A.kill i)] := by
  refine Z.Fn.fnD ?_
  refine Z.fn_enter (n := 20) Try.func37 rfl (by rfl) (by rfl) (fun Fr => ?_)
  refine Z.j_app (by repeat (first | exact Z.App.nil | apply Z.App.cons)) ?_
  refine Z.j_seq ?_
  refine Z.j_region ?_
  refine Z.s_val (Z.pv_move rfl) ?_
  refine Z.s_val (Z.pv_neq rfl rfl) ?_
  refine Z.j_nil ?_
  refine Z.j_then ?_
  refine Z.j_cond rfl (fun hc6 => ?_) (fun hc6 => ?_)
  · try (with_reducible first | replace hc6 := of_decide_eq_true hc6 | replace hc6 := of_decide_eq_false hc6 | replace hc6 := Z.nd_true hc6 | replace hc6 := Z.nd_false hc6 | replace hc6 := Z.nn_true hc6 | replace hc6 := Z.nn_false hc6 | replace hc6 := Z.nb_true hc6 | replace hc6 := Z.nb_false hc6)
    first
    | (exfalso; first | (cases hc6; done) | omega)
    | skip
      refine Z.j_seq ?_
      refine Z.j_region ?_
      refine Z.s_val (Z.pv_move rfl) ?_
      refine Z.s_val (Z.pv_move rfl) ?_
      refine Z.s_callD rfl rfl rfl isFn25 (by repeat (first | with_reducible exact Z.Takes.nil | (apply Z.Takes.cons; (repeat (first | with_reducible exact Z.Take.here | apply Z.Take.there))))) (by repeat (first | exact Z.App.nil | apply Z.App.cons)) (at_spec _ _ _ _ _ _ (by omega)) ?_
      refine Z.s_alloc Try.zeroValue69 (fun b4 => ?_)
      refine Z.s_storeA rfl rfl Try.sizeOf69 rfl (by repeat (first | with_reducible exact Z.Upd.here | apply Z.Upd.there)) (by rfl) ?_
      refine Z.j_nil ?_
      refine Z.j_then ?_
      refine Z.j_seq ?_
      refine Z.j_region ?_
      refine Z.s_val (Z.pv_build rfl Try.zeroValue41 pl41 rfl) ?_
      refine Z.s_val (Z.pv_fieldAddr (o' := 2) rfl Try.underlying69 rfl Try.sizeOf41 rfl) ?_
      refine Z.s_storeA rfl rfl Try.sizeOf41 rfl (by repeat (first | with_reducible exact Z.Upd.here | apply Z.Upd.there)) (by rfl) ?_
      refine Z.s_val (Z.pv_fieldAddr (o' := 6) rfl Try.underlying69 rfl Try.sizeOf4 rfl) ?_
      refine Z.s_store1 rfl rfl (by first | rfl | assumption) Try.sizeOf4 (by repeat (first | with_reducible exact Z.Upd.here | apply Z.Upd.there)) (by rfl) ?_
      refine Z.j_nil ?_
      refine Z.j_then ?_
      refine Z.j_draw (vals := [_, _, _, _, _, _]) 6 (by kernel_rfl) (by kernel_rfl) rfl (by rfl) (Z.heads_cons (Z.hq_val (Z.pv_move (by rfl))) (Z.heads_cons (Z.hq_val (Z.pv_nil (by rfl))) (Z.heads_cons (Z.hq_val (Z.pv_fieldAddr (o' := 0) (by rfl) Try.underlying52 (by rfl) (by exact Try.sizeOf48) (by rfl))) (Z.heads_cons (Z.hq_val (Z.pv_load1 (by rfl) (by repeat (first | with_reducible exact Z.Take.here | apply Z.Take.there)) Try.isAgg48 (by rfl))) (Z.heads_cons (Z.hq_val (Z.pv_move (by rfl))) (Z.heads_cons (Z.hq_val (Z.pv_loadA (by rfl) (by repeat (first | with_reducible exact Z.Take.here | apply Z.Take.there)) Try.isAgg69 (by exact Try.sizeOf69) (by rfl))) Z.heads_nil)))))) ?_
      refine Z.s_callD rfl rfl rfl isFn28 (by repeat (first | with_reducible exact Z.Takes.nil | (apply Z.Takes.cons; (repeat (first | with_reducible exact Z.Take.here | apply Z.Take.there))))) (by repeat (first | exact Z.App.nil | apply Z.App.cons)) (setx_spec _ _ _ _ _ _ _ _ _ _ _ (by omega)) ?_
      refine Z.j_nil ?_
      refine Z.j_done Z.rv0 ?_
      first | (rw [kill_z (by omega)]; exact Z.post_of ⟨rfl, rfl⟩ (by repeat (first | with_reducible exact Z.Takes.nil | (apply Z.Takes.cons; (repeat (first | with_reducible exact Z.Take.here | apply Z.Take.there))))) (by repeat (first | with_reducible exact Z.Drop.nil | apply Z.Drop.cons))) | (rw [kill_nz (by omega)]; exact Z.post_of (Qs := [Z.cl tb 52 [.pointer (some ⟨ab, 0, none⟩), .int .i32 r], Arena ab (A.set i ⟨(A.get i).l, (A.get i).r, ⟨0, 0, 0, 0⟩, true⟩)]) ⟨rfl, rfl⟩ (by repeat (first | with_reducible exact Z.Takes.nil | (apply Z.Takes.cons; (repeat (first | with_reducible exact Z.Take.here | apply Z.Take.there))))) (by repeat (first | with_reducible exact Z.Drop.nil | apply Z.Drop.cons)))
  · try (with_reducible first | replace hc6 := of_decide_eq_true hc6 | replace hc6 := of_decide_eq_false hc6 | replace hc6 := Z.nd_true hc6 | replace hc6 := Z.nd_false hc6 | replace hc6 := Z.nn_true hc6 | replace hc6 := Z.nn_false hc6 | replace hc6 := Z.nb_true hc6 | replace hc6 := Z.nb_false hc6)
    first
    | (exfalso; first | (cases hc6; done) | omega)
    | skip
      refine Z.j_skip ?_
      refine Z.j_done Z.rv0 ?_
      first | (rw [kill_z (by omega)]; exact Z.post_of ⟨rfl, rfl⟩ (by repeat (first | with_reducible exact Z.Takes.nil | (apply Z.Takes.cons; (repeat (first | with_reducible exact Z.Take.here | apply Z.Take.there))))) (by repeat (first | with_reducible exact Z.Drop.nil | apply Z.Drop.cons))) | (rw [kill_nz (by omega)]; exact Z.post_of (Qs := [Z.cl tb 52 [.pointer (some ⟨ab, 0, none⟩), .int .i32 r], Arena ab (A.set i ⟨(A.get i).l, (A.get i).r, ⟨0, 0, 0, 0⟩, true⟩)]) ⟨rfl, rfl⟩ (by repeat (first | with_reducible exact Z.Takes.nil | (apply Z.Takes.cons; (repeat (first | with_reducible exact Z.Take.here | apply Z.Take.there))))) (by repeat (first | with_reducible exact Z.Drop.nil | apply Z.Drop.cons)))

set_option maxHeartbeats 4000000 in
set_option maxRecDepth 100000 in
theorem push_spec (w0 : World) (tb ab : Nat) (r : Int) (A : Ar) (i : Int) (hA : A.ok) (hi : -2147483648 ≤ i ∧ i ≤ 2147483647) : Z.FnD Try.prog w0 27 [.pointer (some ⟨tb, 0, none⟩), .int .i32 i] [Z.cl tb 52 [.pointer (some ⟨ab, 0, none⟩), .int .i32 r], Arena ab A] (.agg (A.node i).c.toArray) [Z.cl tb 52 [.pointer (some ⟨ab, 0, none⟩), .int .i32 r], Arena ab (A.pushed i)] := by
  obtain ⟨⟨hl1, hl2⟩, hl3, hl4⟩ := get_ok hA i
  refine Z.Fn.fnD ?_
  refine Z.fn_enter (n := 28) Try.func27 rfl (by rfl) (by rfl) (fun Fr => ?_)
  refine Z.j_app (by repeat (first | exact Z.App.nil | apply Z.App.cons)) ?_
  refine Z.j_seq ?_
  refine Z.j_region ?_
  refine Z.s_alloc Try.zeroValue69 (fun b4 => ?_)
  refine Z.j_nil ?_
  refine Z.j_then ?_
  refine Z.j_seq ?_
  refine Z.j_region ?_
  refine Z.s_val (Z.pv_move rfl) ?_
  refine Z.s_val (Z.pv_move rfl) ?_
  refine Z.s_callD rfl rfl rfl isFn25 (by repeat (first | with_reducible exact Z.Takes.nil | (apply Z.Takes.cons; (repeat (first | with_reducible exact Z.Take.here | apply Z.Take.there))))) (by repeat (first | exact Z.App.nil | apply Z.App.cons)) (at_spec _ _ _ _ _ _ (by omega)) ?_
  refine Z.s_alloc Try.zeroValue69 (fun b5 => ?_)
  refine Z.s_storeA rfl rfl Try.sizeOf69 rfl (by repeat (first | with_reducible exact Z.Upd.here | apply Z.Upd.there)) (by rfl) ?_
  refine Z.j_nil ?_
  refine Z.j_then ?_
  refine Z.j_seq ?_
  refine Z.j_seq ?_
  refine Z.j_region ?_
  refine Z.s_val (Z.pv_fieldAddr (o' := 6) rfl Try.underlying69 rfl Try.sizeOf4 rfl) ?_
  refine Z.s_val (Z.pv_load1 rfl (by repeat (first | with_reducible exact Z.Take.here | apply Z.Take.there)) Try.isAgg4 (by rfl)) ?_
  refine Z.j_nil ?_
  refine Z.j_then ?_
  refine Z.j_cond rfl (fun hc10 => ?_) (fun hc10 => ?_)
  · try (with_reducible first | replace hc10 := of_decide_eq_true hc10 | replace hc10 := of_decide_eq_false hc10 | replace hc10 := Z.nd_true hc10 | replace hc10 := Z.nd_false hc10 | replace hc10 := Z.nn_true hc10 | replace hc10 := Z.nn_false hc10 | replace hc10 := Z.nb_true hc10 | replace hc10 := Z.nb_false hc10)
    first
    | (exfalso; first | (cases hc10; done) | omega)
    | skip
      refine Z.j_seq ?_
      refine Z.j_region ?_
      refine Z.s_val (Z.pv_move rfl) ?_
      refine Z.s_val (Z.pv_fieldAddr (o' := 0) rfl Try.underlying69 rfl Try.sizeOf21 rfl) ?_
      refine Z.s_val (Z.pv_load1 rfl (by repeat (first | with_reducible exact Z.Take.here | apply Z.Take.there)) Try.isAgg21 (by rfl)) ?_
      refine Z.s_callD rfl rfl rfl isFn37 (by repeat (first | with_reducible exact Z.Takes.nil | (apply Z.Takes.cons; (repeat (first | with_reducible exact Z.Take.here | apply Z.Take.there))))) (by repeat (first | exact Z.App.nil | apply Z.App.cons)) (kill_spec _ _ _ _ _ _ (by omega)) ?_
      refine Z.j_nil ?_
      refine Z.j_then ?_
      refine Z.j_seq ?_
      refine Z.j_region ?_
      refine Z.s_val (Z.pv_move rfl) ?_
      refine Z.s_val (Z.pv_fieldAddr (o' := 1) rfl Try.underlying69 rfl Try.sizeOf21 rfl) ?_
      refine Z.s_val (Z.pv_load1 rfl (by repeat (first | with_reducible exact Z.Take.here | apply Z.Take.there)) Try.isAgg21 (by rfl)) ?_
      refine Z.s_callD rfl rfl rfl isFn37 (by repeat (first | with_reducible exact Z.Takes.nil | (apply Z.Takes.cons; (repeat (first | with_reducible exact Z.Take.here | apply Z.Take.there))))) (by repeat (first | exact Z.App.nil | apply Z.App.cons)) (kill_spec _ _ _ _ _ _ (by omega)) ?_
      refine Z.j_nil ?_
      refine Z.j_then ?_
      refine Z.j_seq ?_
      refine Z.j_region ?_
      refine Z.s_val (Z.pv_fieldAddr (o' := 6) rfl Try.underlying69 rfl Try.sizeOf4 rfl) ?_
      refine Z.s_store1 rfl rfl (by first | rfl | assumption) Try.sizeOf4 (by repeat (first | with_reducible exact Z.Upd.here | apply Z.Upd.there)) (by rfl) ?_
      refine Z.j_nil ?_
      refine Z.j_then ?_
      refine Z.j_draw (vals := [_, _, _, _, _, _]) 6 (by kernel_rfl) (by kernel_rfl) rfl (by rfl) (Z.heads_cons (Z.hq_val (Z.pv_move (by rfl))) (Z.heads_cons (Z.hq_val (Z.pv_nil (by rfl))) (Z.heads_cons (Z.hq_val (Z.pv_fieldAddr (o' := 0) (by rfl) Try.underlying52 (by rfl) (by exact Try.sizeOf48) (by rfl))) (Z.heads_cons (Z.hq_val (Z.pv_load1 (by rfl) (by repeat (first | with_reducible exact Z.Take.here | apply Z.Take.there)) Try.isAgg48 (by rfl))) (Z.heads_cons (Z.hq_val (Z.pv_move (by rfl))) (Z.heads_cons (Z.hq_val (Z.pv_loadA (by rfl) (by repeat (first | with_reducible exact Z.Take.here | apply Z.Take.there)) Try.isAgg69 (by exact Try.sizeOf69) (by rfl))) Z.heads_nil)))))) ?_
      refine Z.s_callD rfl rfl rfl isFn28 (by repeat (first | with_reducible exact Z.Takes.nil | (apply Z.Takes.cons; (repeat (first | with_reducible exact Z.Take.here | apply Z.Take.there))))) (by repeat (first | exact Z.App.nil | apply Z.App.cons)) (setx_spec _ _ _ _ _ _ _ _ _ _ _ (by omega)) ?_
      refine Z.j_nil ?_
      refine Z.j_then ?_
      refine Z.j_seq ?_
      refine Z.j_region ?_
      refine Z.s_val (Z.pv_loadA rfl (by repeat (first | with_reducible exact Z.Take.here | apply Z.Take.there)) Try.isAgg69 Try.sizeOf69 (by rfl)) ?_
      refine Z.s_storeA rfl rfl Try.sizeOf69 rfl (by repeat (first | with_reducible exact Z.Upd.here | apply Z.Upd.there)) (by rfl) ?_
      refine Z.j_nil ?_
      refine Z.j_then ?_
      refine Z.j_ret ?_
      refine Z.j_done_ret (Z.rv1 (Z.rv_cellA (x := 4) (T := 69) rfl (by repeat (first | with_reducible exact Z.Take.here | apply Z.Take.there)) Try.isAgg69 Try.sizeOf69 (by rfl))) ?_
      first | (rw [pushed_t hc10]; exact Z.post_of (Qs := [Z.cl tb 52 [.pointer (some ⟨ab, 0, none⟩), .int .i32 r], Arena ab (((A.kill (A.get i).l).kill (A.get i).r).set i ⟨(A.get i).l, (A.get i).r, ⟨(A.get i).a.c, (A.get i).a.s, (A.get i).a.mn, (A.get i).a.mx⟩, false⟩)]) ⟨rfl, rfl⟩ (by repeat (first | with_reducible exact Z.Takes.nil | (apply Z.Takes.cons; (repeat (first | with_reducible exact Z.Take.here | apply Z.Take.there))))) (by repeat (first | with_reducible exact Z.Drop.nil | apply Z.Drop.cons))) | (rw [pushed_f hc10, node_f hc10]; exact Z.post_of ⟨rfl, rfl⟩ (by repeat (first | with_reducible exact Z.Takes.nil | (apply Z.Takes.cons; (repeat (first | with_reducible exact Z.Take.here | apply Z.Take.there))))) (by repeat (first | with_reducible exact Z.Drop.nil | apply Z.Drop.cons)))
  · try (with_reducible first | replace hc10 := of_decide_eq_true hc10 | replace hc10 := of_decide_eq_false hc10 | replace hc10 := Z.nd_true hc10 | replace hc10 := Z.nd_false hc10 | replace hc10 := Z.nn_true hc10 | replace hc10 := Z.nn_false hc10 | replace hc10 := Z.nb_true hc10 | replace hc10 := Z.nb_false hc10)
    first
    | (exfalso; first | (cases hc10; done) | omega)
    | skip
      refine Z.j_skip ?_
      refine Z.j_then ?_
      refine Z.j_seq ?_
      refine Z.j_region ?_
      refine Z.s_val (Z.pv_loadA rfl (by repeat (first | with_reducible exact Z.Take.here | apply Z.Take.there)) Try.isAgg69 Try.sizeOf69 (by rfl)) ?_
      refine Z.s_storeA rfl rfl Try.sizeOf69 rfl (by repeat (first | with_reducible exact Z.Upd.here | apply Z.Upd.there)) (by rfl) ?_
      refine Z.j_nil ?_
      refine Z.j_then ?_
      refine Z.j_ret ?_
      refine Z.j_done_ret (Z.rv1 (Z.rv_cellA (x := 4) (T := 69) rfl (by repeat (first | with_reducible exact Z.Take.here | apply Z.Take.there)) Try.isAgg69 Try.sizeOf69 (by rfl))) ?_
      first | (rw [pushed_t hc10]; exact Z.post_of (Qs := [Z.cl tb 52 [.pointer (some ⟨ab, 0, none⟩), .int .i32 r], Arena ab (((A.kill (A.get i).l).kill (A.get i).r).set i ⟨(A.get i).l, (A.get i).r, ⟨(A.get i).a.c, (A.get i).a.s, (A.get i).a.mn, (A.get i).a.mx⟩, false⟩)]) ⟨rfl, rfl⟩ (by repeat (first | with_reducible exact Z.Takes.nil | (apply Z.Takes.cons; (repeat (first | with_reducible exact Z.Take.here | apply Z.Take.there))))) (by repeat (first | with_reducible exact Z.Drop.nil | apply Z.Drop.cons))) | (rw [pushed_f hc10, node_f hc10]; exact Z.post_of ⟨rfl, rfl⟩ (by repeat (first | with_reducible exact Z.Takes.nil | (apply Z.Takes.cons; (repeat (first | with_reducible exact Z.Take.here | apply Z.Take.there))))) (by repeat (first | with_reducible exact Z.Drop.nil | apply Z.Drop.cons)))

set_option maxHeartbeats 4000000 in
set_option maxRecDepth 100000 in
theorem join_spec (w0 : World) (tb ab : Nat) (r : Int) (A : Ar) (i : Int) (m : Node) (hm : m.ok) (hi : -2147483648 ≤ i ∧ i ≤ 2147483647) : Z.FnD Try.prog w0 30 [.pointer (some ⟨tb, 0, none⟩), .int .i32 i, .agg m.c.toArray] [Z.cl tb 52 [.pointer (some ⟨ab, 0, none⟩), .int .i32 r], Arena ab A] (.tuple #[]) [Z.cl tb 52 [.pointer (some ⟨ab, 0, none⟩), .int .i32 r], Arena ab (A.joined i m)] := by
  obtain ⟨⟨hm1, hm2⟩, hm3, hm4⟩ := id hm
  refine Z.Fn.fnD ?_
  refine Z.fn_enter (n := 25) Try.func30 rfl (by rfl) (by rfl) (fun Fr => ?_)
  refine Z.j_app (by repeat (first | exact Z.App.nil | apply Z.App.cons)) ?_
  refine Z.j_seq ?_
  refine Z.j_region ?_
  refine Z.s_box rfl (fun b5 => ?_)
  refine Z.j_nil ?_
  refine Z.j_then ?_
  refine Z.j_seq ?_
  refine Z.j_draw (vals := [_, _, _, _, _, _, _, _, _, _, _, _]) 12 (by kernel_rfl) (by kernel_rfl) rfl (by rfl) (Z.heads_cons (Z.hq_val (Z.pv_move (by rfl))) (Z.heads_cons (Z.hq_val (Z.pv_fieldAddr (o' := 0) (by rfl) Try.underlying69 (by rfl) (by exact Try.sizeOf21) (by rfl))) (Z.heads_cons (Z.hq_val (Z.pv_load1 (by rfl) (by repeat (first | with_reducible exact Z.Take.here | apply Z.Take.there)) Try.isAgg21 (by rfl))) (Z.heads_cons (Z.hq_callD (by rfl) (by rfl) (by rfl) isFn25 (by repeat (first | with_reducible exact Z.Takes.nil | (apply Z.Takes.cons; (repeat (first | with_reducible exact Z.Take.here | apply Z.Take.there))))) (by repeat (first | with_reducible exact Z.Takes.nil | (apply Z.Takes.cons; (repeat (first | with_reducible exact Z.Take.here | apply Z.Take.there))))) (at_spec _ _ _ _ _ _ (by omega))) (Z.heads_cons (Z.hq_val (Z.pv_fieldA (by rfl) Try.underlying69 (by rfl) Try.isAgg41 (by exact Try.sizeOf41) (by rfl))) (Z.heads_cons (Z.hq_val (Z.pv_move (by rfl))) (Z.heads_cons (Z.hq_val (Z.pv_fieldAddr (o' := 1) (by rfl) Try.underlying69 (by rfl) (by exact Try.sizeOf21) (by rfl))) (Z.heads_cons (Z.hq_val (Z.pv_load1 (by rfl) (by repeat (first | with_reducible exact Z.Take.here | apply Z.Take.there)) Try.isAgg21 (by rfl))) (Z.heads_cons (Z.hq_callD (by rfl) (by rfl) (by rfl) isFn25 (by repeat (first | with_reducible exact Z.Takes.nil | (apply Z.Takes.cons; (repeat (first | with_reducible exact Z.Take.here | apply Z.Take.there))))) (by repeat (first | with_reducible exact Z.Takes.nil | (apply Z.Takes.cons; (repeat (first | with_reducible exact Z.Take.here | apply Z.Take.there))))) (at_spec _ _ _ _ _ _ (by omega))) (Z.heads_cons (Z.hq_val (Z.pv_fieldA (by rfl) Try.underlying69 (by rfl) Try.isAgg41 (by exact Try.sizeOf41) (by rfl))) (Z.heads_cons (Z.hq_callD (by rfl) (by rfl) (by rfl) isFn36 (by repeat (first | with_reducible exact Z.Takes.nil | (apply Z.Takes.cons; (repeat (first | with_reducible exact Z.Take.here | apply Z.Take.there))))) (by repeat (first | with_reducible exact Z.Takes.nil | (apply Z.Takes.cons; (repeat (first | with_reducible exact Z.Take.here | apply Z.Take.there))))) (mergex_spec _ _ _ _ _ _ _ _ _)) (Z.heads_cons (Z.hq_val (Z.pv_fieldAddr (o' := 2) (by rfl) Try.underlying69 (by rfl) (by exact Try.sizeOf41) (by rfl))) Z.heads_nil)))))))))))) ?_
  refine Z.s_storeA rfl rfl Try.sizeOf41 rfl (by repeat (first | with_reducible exact Z.Upd.here | apply Z.Upd.there)) (by rfl) ?_
  refine Z.j_nil ?_
  refine Z.j_then ?_
  refine Z.j_draw (vals := [_, _, _, _, _, _]) 6 (by kernel_rfl) (by kernel_rfl) rfl (by rfl) (Z.heads_cons (Z.hq_val (Z.pv_move (by rfl))) (Z.heads_cons (Z.hq_val (Z.pv_nil (by rfl))) (Z.heads_cons (Z.hq_val (Z.pv_fieldAddr (o' := 0) (by rfl) Try.underlying52 (by rfl) (by exact Try.sizeOf48) (by rfl))) (Z.heads_cons (Z.hq_val (Z.pv_load1 (by rfl) (by repeat (first | with_reducible exact Z.Take.here | apply Z.Take.there)) Try.isAgg48 (by rfl))) (Z.heads_cons (Z.hq_val (Z.pv_move (by rfl))) (Z.heads_cons (Z.hq_val (Z.pv_loadA (by rfl) (by repeat (first | with_reducible exact Z.Take.here | apply Z.Take.there)) Try.isAgg69 (by exact Try.sizeOf69) (by rfl))) Z.heads_nil)))))) ?_
  refine Z.s_callD rfl rfl rfl isFn28 (by repeat (first | with_reducible exact Z.Takes.nil | (apply Z.Takes.cons; (repeat (first | with_reducible exact Z.Take.here | apply Z.Take.there))))) (by repeat (first | exact Z.App.nil | apply Z.App.cons)) (setx_spec _ _ _ _ _ _ _ _ _ _ _ (by omega)) ?_
  refine Z.j_nil ?_
  refine Z.j_done Z.rv0 ?_
  exact Z.post_of (Qs := [Z.cl tb 52 [.pointer (some ⟨ab, 0, none⟩), .int .i32 r], Arena ab (A.set i { m with a := (A.get m.l).a.merge (A.get m.r).a })]) ⟨rfl, rfl⟩ (by repeat (first | with_reducible exact Z.Takes.nil | (apply Z.Takes.cons; (repeat (first | with_reducible exact Z.Take.here | apply Z.Take.there))))) (by repeat (first | with_reducible exact Z.Drop.nil | apply Z.Drop.cons))


theorem joinx_spec (w0 : World) (tb ab : Nat) (q : Int) (A : Ar) (i l r c s mn mx : Int) (k : Bool) (hm : (0 ≤ l ∧ l ≤ 4194304) ∧ (0 ≤ r ∧ r ≤ 4194304)) (hi : -2147483648 ≤ i ∧ i ≤ 2147483647) : Z.FnD Try.prog w0 30 [.pointer (some ⟨tb, 0, none⟩), .int .i32 i, .agg #[.int .i32 l, .int .i32 r, .int .i64 c, .int .i64 s, .int .i64 mn, .int .i64 mx, .bool k]] [Z.cl tb 52 [.pointer (some ⟨ab, 0, none⟩), .int .i32 q], Arena ab A] (.tuple #[]) [Z.cl tb 52 [.pointer (some ⟨ab, 0, none⟩), .int .i32 q], Arena ab (A.joined i ⟨l, r, ⟨c, s, mn, mx⟩, k⟩)] := join_spec w0 tb ab q A i ⟨l, r, ⟨c, s, mn, mx⟩, k⟩ hm hi

set_option maxHeartbeats 4000000 in
set_option maxRecDepth 100000 in
theorem hi_spec (w0 : World) (lo : Int) (h : Nat) (hh : h ≤ 32) (h0 : 0 ≤ lo) (h1 : lo + pw h ≤ 4294967296) : Z.FnD Try.prog w0 40 [.agg #[.int .u32 lo, .int .i64 h]] [] (.int .u32 (lo + pw h - 1)) [] := by
  obtain ⟨hp1, hp2⟩ := pw_bd hh
  refine Z.Fn.fnD ?_
  refine Z.fn_enter (n := 11) Try.func40 rfl (by rfl) (by rfl) (fun Fr => ?_)
  refine Z.j_app (by repeat (first | exact Z.App.nil | apply Z.App.cons)) ?_
  refine Z.j_seq ?_
  refine Z.j_region ?_
  refine Z.s_box rfl (fun b1 => ?_)
  refine Z.s_val (Z.pv_assign rfl) ?_
  refine Z.j_nil ?_
  refine Z.j_then ?_
  refine Z.j_seq ?_
  refine Z.j_draw (vals := [_, _, _, _, _, _, _, _, _]) 9 (by kernel_rfl) (by kernel_rfl) rfl (by rfl) (Z.heads_cons (Z.hq_val (Z.pv_fieldAddr (o' := 0) (by rfl) Try.underlying61 (by rfl) (by exact Try.sizeOf30) (by rfl))) (Z.heads_cons (Z.hq_val (Z.pv_load1 (by rfl) (by repeat (first | with_reducible exact Z.Take.here | apply Z.Take.there)) Try.isAgg30 (by rfl))) (Z.heads_cons (Z.hq_val (Z.pv_fieldAddr (o' := 1) (by rfl) Try.underlying61 (by rfl) (by exact Try.sizeOf3) (by rfl))) (Z.heads_cons (Z.hq_val (Z.pv_load1 (by rfl) (by repeat (first | with_reducible exact Z.Take.here | apply Z.Take.there)) Try.isAgg3 (by rfl))) (Z.heads_cons (Z.hq_val (Z.pv_shl (by rfl) (by rfl) (by omega) (shl_u64 hh))) (Z.heads_cons (Z.hq_val (Z.pv_sub (by rfl) (by rfl) (by first | exact IntWalk.u64_in _ (by omega) | rfl))) (Z.heads_cons (Z.hq_val (Z.pv_conv (by rfl) Try.underlying87 (by rfl) Try.underlying30 (by first | exact IntWalk.u32_in _ (by omega) | rfl))) (Z.heads_cons (Z.hq_val (Z.pv_add (by rfl) (by rfl) (show _ = lo + pw h - 1 from by rw [show lo + (pw h - 1) = lo + pw h - 1 by omega]; exact IntWalk.u32_in _ (by omega)))) (Z.heads_cons (Z.hq_val (Z.pv_assign (by rfl))) Z.heads_nil))))))))) ?_
  refine Z.j_nil ?_
  refine Z.j_then ?_
  refine Z.j_ret ?_
  refine Z.j_done_ret (Z.rv1 (Z.rv_tmp (t := 2) rfl)) ?_
  exact Z.post_of ⟨rfl, rfl⟩ (by repeat (first | with_reducible exact Z.Takes.nil | (apply Z.Takes.cons; (repeat (first | with_reducible exact Z.Take.here | apply Z.Take.there))))) (by repeat (first | with_reducible exact Z.Drop.nil | apply Z.Drop.cons))

set_option maxHeartbeats 4000000 in
set_option maxRecDepth 100000 in
theorem inside_spec (w0 : World) (lo : Int) (h : Nat) (hh : h ≤ 32) (h0 : 0 ≤ lo) (h1 : lo + pw h ≤ 4294967296) (s t : Int) : Z.FnD Try.prog w0 34 [.agg #[.int .u32 lo, .int .i64 h], .agg #[.int .u32 s, .int .u32 t]] [] (.bool (insB lo h s t)) [] := by
  refine Z.Fn.fnD ?_
  refine Z.fn_enter (n := 17) Try.func34 rfl (by rfl) (by rfl) (fun Fr => ?_)
  refine Z.j_app (by repeat (first | exact Z.App.nil | apply Z.App.cons)) ?_
  refine Z.j_seq ?_
  refine Z.j_region ?_
  refine Z.s_box rfl (fun b2 => ?_)
  refine Z.s_box rfl (fun b3 => ?_)
  refine Z.s_val (Z.pv_assign rfl) ?_
  refine Z.j_nil ?_
  refine Z.j_then ?_
  refine Z.j_seq ?_
  by_cases hd9 : s ≤ lo
  · skip
    refine Z.j_draw (vals := [_, _, _, _, _, _, _, _, _, _, _, _, _]) 13 (by kernel_rfl) (by kernel_rfl) rfl (by rfl) (Z.heads_cons (Z.hq_val (Z.pv_fieldAddr (o' := 0) (by rfl) Try.underlying44 (by rfl) (by exact Try.sizeOf30) (by rfl))) (Z.heads_cons (Z.hq_val (Z.pv_load1 (by rfl) (by repeat (first | with_reducible exact Z.Take.here | apply Z.Take.there)) Try.isAgg30 (by rfl))) (Z.heads_cons (Z.hq_val (Z.pv_fieldAddr (o' := 0) (by rfl) Try.underlying61 (by rfl) (by exact Try.sizeOf30) (by rfl))) (Z.heads_cons (Z.hq_val (Z.pv_load1 (by rfl) (by repeat (first | with_reducible exact Z.Take.here | apply Z.Take.there)) Try.isAgg30 (by rfl))) (Z.heads_cons (Z.hq_val (Z.pv_is (Z.pv_leq (by rfl) (by rfl)) (Z.bool_t hd9))) (Z.heads_cons (Z.hq_val (Z.pv_move (by rfl))) (Z.heads_cons (Z.hq_val (Z.pv_loadA (by rfl) (by repeat (first | with_reducible exact Z.Take.here | apply Z.Take.there)) Try.isAgg61 (by exact Try.sizeOf61) (by rfl))) (Z.heads_cons (Z.hq_callD (by rfl) (by rfl) (by rfl) isFn40 (by repeat (first | with_reducible exact Z.Takes.nil | (apply Z.Takes.cons; (repeat (first | with_reducible exact Z.Take.here | apply Z.Take.there))))) (by repeat (first | with_reducible exact Z.Takes.nil | (apply Z.Takes.cons; (repeat (first | with_reducible exact Z.Take.here | apply Z.Take.there))))) (hi_spec _ _ _ (by assumption) (by assumption) (by assumption))) (Z.heads_cons (Z.hq_val (Z.pv_fieldAddr (o' := 1) (by rfl) Try.underlying44 (by rfl) (by exact Try.sizeOf30) (by rfl))) (Z.heads_cons (Z.hq_val (Z.pv_load1 (by rfl) (by repeat (first | with_reducible exact Z.Take.here | apply Z.Take.there)) Try.isAgg30 (by rfl))) (Z.heads_cons (Z.hq_val (Z.pv_leq (by rfl) (by rfl))) (Z.heads_cons (Z.hq_val (Z.pv_pick (by rfl) (by rfl))) (Z.heads_cons (Z.hq_val (Z.pv_assign (by rfl))) Z.heads_nil))))))))))))) ?_
    refine Z.j_nil ?_
    refine Z.j_then ?_
    refine Z.j_ret ?_
    refine Z.j_done_ret (Z.rv1 (Z.rv_tmp (t := 4) rfl)) ?_
    exact Z.post_of ⟨by first | rw [insB_t hd9] | rw [insB_f hd9], rfl⟩ (by repeat (first | with_reducible exact Z.Takes.nil | (apply Z.Takes.cons; (repeat (first | with_reducible exact Z.Take.here | apply Z.Take.there))))) (by repeat (first | with_reducible exact Z.Drop.nil | apply Z.Drop.cons))
  · skip
    refine Z.j_draw (vals := [_, _, _, _, _, _, _, _, _, _, _, _, _]) 13 (by kernel_rfl) (by kernel_rfl) rfl (by rfl) (Z.heads_cons (Z.hq_val (Z.pv_fieldAddr (o' := 0) (by rfl) Try.underlying44 (by rfl) (by exact Try.sizeOf30) (by rfl))) (Z.heads_cons (Z.hq_val (Z.pv_load1 (by rfl) (by repeat (first | with_reducible exact Z.Take.here | apply Z.Take.there)) Try.isAgg30 (by rfl))) (Z.heads_cons (Z.hq_val (Z.pv_fieldAddr (o' := 0) (by rfl) Try.underlying61 (by rfl) (by exact Try.sizeOf30) (by rfl))) (Z.heads_cons (Z.hq_val (Z.pv_load1 (by rfl) (by repeat (first | with_reducible exact Z.Take.here | apply Z.Take.there)) Try.isAgg30 (by rfl))) (Z.heads_cons (Z.hq_val (Z.pv_is (Z.pv_leq (by rfl) (by rfl)) (Z.bool_f hd9))) (Z.heads_cons (Z.hq_val (Z.pv_move (by rfl))) (Z.heads_cons Z.hq_skip (Z.heads_cons Z.hq_skip (Z.heads_cons Z.hq_skip (Z.heads_cons Z.hq_skip (Z.heads_cons Z.hq_skip (Z.heads_cons (Z.hq_val (Z.pv_pick (by rfl) (by rfl))) (Z.heads_cons (Z.hq_val (Z.pv_assign (by rfl))) Z.heads_nil))))))))))))) ?_
    refine Z.j_nil ?_
    refine Z.j_then ?_
    refine Z.j_ret ?_
    refine Z.j_done_ret (Z.rv1 (Z.rv_tmp (t := 4) rfl)) ?_
    exact Z.post_of ⟨by first | rw [insB_t hd9] | rw [insB_f hd9], rfl⟩ (by repeat (first | with_reducible exact Z.Takes.nil | (apply Z.Takes.cons; (repeat (first | with_reducible exact Z.Take.here | apply Z.Take.there))))) (by repeat (first | with_reducible exact Z.Drop.nil | apply Z.Drop.cons))

set_option maxHeartbeats 4000000 in
set_option maxRecDepth 100000 in
theorem outside_spec (w0 : World) (lo : Int) (h : Nat) (hh : h ≤ 32) (h0 : 0 ≤ lo) (h1 : lo + pw h ≤ 4294967296) (s t : Int) : Z.FnD Try.prog w0 33 [.agg #[.int .u32 lo, .int .i64 h], .agg #[.int .u32 s, .int .u32 t]] [] (.bool (outB lo h s t)) [] := by
  refine Z.Fn.fnD ?_
  refine Z.fn_enter (n := 24) Try.func33 rfl (by rfl) (by rfl) (fun Fr => ?_)
  refine Z.j_app (by repeat (first | exact Z.App.nil | apply Z.App.cons)) ?_
  refine Z.j_seq ?_
  refine Z.j_region ?_
  refine Z.s_box rfl (fun b2 => ?_)
  refine Z.s_box rfl (fun b3 => ?_)
  refine Z.s_val (Z.pv_assign rfl) ?_
  refine Z.j_nil ?_
  refine Z.j_then ?_
  refine Z.j_seq ?_
  by_cases hd9 : t < lo
  · skip
    refine Z.j_draw (vals := [_, _, _, _, _, _, _, _, _, _, _, _, _, _, _, _, _, _, _, _]) 20 (by kernel_rfl) (by kernel_rfl) rfl (by rfl) (Z.heads_cons (Z.hq_val (Z.pv_fieldAddr (o' := 1) (by rfl) Try.underlying44 (by rfl) (by exact Try.sizeOf30) (by rfl))) (Z.heads_cons (Z.hq_val (Z.pv_load1 (by rfl) (by repeat (first | with_reducible exact Z.Take.here | apply Z.Take.there)) Try.isAgg30 (by rfl))) (Z.heads_cons (Z.hq_val (Z.pv_fieldAddr (o' := 0) (by rfl) Try.underlying61 (by rfl) (by exact Try.sizeOf30) (by rfl))) (Z.heads_cons (Z.hq_val (Z.pv_load1 (by rfl) (by repeat (first | with_reducible exact Z.Take.here | apply Z.Take.there)) Try.isAgg30 (by rfl))) (Z.heads_cons (Z.hq_val (Z.pv_is (Z.pv_lss (by rfl) (by rfl)) (Z.bool_t hd9))) (Z.heads_cons (Z.hq_val (Z.pv_move (by rfl))) (Z.heads_cons Z.hq_skip (Z.heads_cons Z.hq_skip (Z.heads_cons Z.hq_skip (Z.heads_cons Z.hq_skip (Z.heads_cons Z.hq_skip (Z.heads_cons (Z.hq_val (Z.pv_pick (by rfl) (by rfl))) (Z.heads_cons (Z.hq_val (Z.pv_move (by rfl))) (Z.heads_cons Z.hq_skip (Z.heads_cons Z.hq_skip (Z.heads_cons Z.hq_skip (Z.heads_cons Z.hq_skip (Z.heads_cons Z.hq_skip (Z.heads_cons (Z.hq_val (Z.pv_pick (by rfl) (by rfl))) (Z.heads_cons (Z.hq_val (Z.pv_assign (by rfl))) Z.heads_nil)))))))))))))))))))) ?_
    refine Z.j_nil ?_
    refine Z.j_then ?_
    refine Z.j_ret ?_
    refine Z.j_done_ret (Z.rv1 (Z.rv_tmp (t := 4) rfl)) ?_
    exact Z.post_of ⟨by first | rw [outB_1 hd9] | rw [outB_2 hd9 hd15] | rw [outB_3 hd9 hd15], rfl⟩ (by repeat (first | with_reducible exact Z.Takes.nil | (apply Z.Takes.cons; (repeat (first | with_reducible exact Z.Take.here | apply Z.Take.there))))) (by repeat (first | with_reducible exact Z.Drop.nil | apply Z.Drop.cons))
  · skip
    by_cases hd15 : lo + pw h - 1 < s
    · skip
      refine Z.j_draw (vals := [_, _, _, _, _, _, _, _, _, _, _, _, _, _, _, _, _, _, _, _]) 20 (by kernel_rfl) (by kernel_rfl) rfl (by rfl) (Z.heads_cons (Z.hq_val (Z.pv_fieldAddr (o' := 1) (by rfl) Try.underlying44 (by rfl) (by exact Try.sizeOf30) (by rfl))) (Z.heads_cons (Z.hq_val (Z.pv_load1 (by rfl) (by repeat (first | with_reducible exact Z.Take.here | apply Z.Take.there)) Try.isAgg30 (by rfl))) (Z.heads_cons (Z.hq_val (Z.pv_fieldAddr (o' := 0) (by rfl) Try.underlying61 (by rfl) (by exact Try.sizeOf30) (by rfl))) (Z.heads_cons (Z.hq_val (Z.pv_load1 (by rfl) (by repeat (first | with_reducible exact Z.Take.here | apply Z.Take.there)) Try.isAgg30 (by rfl))) (Z.heads_cons (Z.hq_val (Z.pv_is (Z.pv_lss (by rfl) (by rfl)) (Z.bool_f hd9))) (Z.heads_cons (Z.hq_val (Z.pv_move (by rfl))) (Z.heads_cons (Z.hq_val (Z.pv_loadA (by rfl) (by repeat (first | with_reducible exact Z.Take.here | apply Z.Take.there)) Try.isAgg61 (by exact Try.sizeOf61) (by rfl))) (Z.heads_cons (Z.hq_callD (by rfl) (by rfl) (by rfl) isFn40 (by repeat (first | with_reducible exact Z.Takes.nil | (apply Z.Takes.cons; (repeat (first | with_reducible exact Z.Take.here | apply Z.Take.there))))) (by repeat (first | with_reducible exact Z.Takes.nil | (apply Z.Takes.cons; (repeat (first | with_reducible exact Z.Take.here | apply Z.Take.there))))) (hi_spec _ _ _ (by assumption) (by assumption) (by assumption))) (Z.heads_cons (Z.hq_val (Z.pv_fieldAddr (o' := 0) (by rfl) Try.underlying44 (by rfl) (by exact Try.sizeOf30) (by rfl))) (Z.heads_cons (Z.hq_val (Z.pv_load1 (by rfl) (by repeat (first | with_reducible exact Z.Take.here | apply Z.Take.there)) Try.isAgg30 (by rfl))) (Z.heads_cons (Z.hq_val (Z.pv_is (Z.pv_lss (by rfl) (by rfl)) (Z.bool_t hd15))) (Z.heads_cons (Z.hq_val (Z.pv_pick (by rfl) (by rfl))) (Z.heads_cons (Z.hq_val (Z.pv_move (by rfl))) (Z.heads_cons Z.hq_skip (Z.heads_cons Z.hq_skip (Z.heads_cons Z.hq_skip (Z.heads_cons Z.hq_skip (Z.heads_cons Z.hq_skip (Z.heads_cons (Z.hq_val (Z.pv_pick (by rfl) (by rfl))) (Z.heads_cons (Z.hq_val (Z.pv_assign (by rfl))) Z.heads_nil)))))))))))))))))))) ?_
      refine Z.j_nil ?_
      refine Z.j_then ?_
      refine Z.j_ret ?_
      refine Z.j_done_ret (Z.rv1 (Z.rv_tmp (t := 4) rfl)) ?_
      exact Z.post_of ⟨by first | rw [outB_1 hd9] | rw [outB_2 hd9 hd15] | rw [outB_3 hd9 hd15], rfl⟩ (by repeat (first | with_reducible exact Z.Takes.nil | (apply Z.Takes.cons; (repeat (first | with_reducible exact Z.Take.here | apply Z.Take.there))))) (by repeat (first | with_reducible exact Z.Drop.nil | apply Z.Drop.cons))
    · skip
      refine Z.j_draw (vals := [_, _, _, _, _, _, _, _, _, _, _, _, _, _, _, _, _, _, _, _]) 20 (by kernel_rfl) (by kernel_rfl) rfl (by rfl) (Z.heads_cons (Z.hq_val (Z.pv_fieldAddr (o' := 1) (by rfl) Try.underlying44 (by rfl) (by exact Try.sizeOf30) (by rfl))) (Z.heads_cons (Z.hq_val (Z.pv_load1 (by rfl) (by repeat (first | with_reducible exact Z.Take.here | apply Z.Take.there)) Try.isAgg30 (by rfl))) (Z.heads_cons (Z.hq_val (Z.pv_fieldAddr (o' := 0) (by rfl) Try.underlying61 (by rfl) (by exact Try.sizeOf30) (by rfl))) (Z.heads_cons (Z.hq_val (Z.pv_load1 (by rfl) (by repeat (first | with_reducible exact Z.Take.here | apply Z.Take.there)) Try.isAgg30 (by rfl))) (Z.heads_cons (Z.hq_val (Z.pv_is (Z.pv_lss (by rfl) (by rfl)) (Z.bool_f hd9))) (Z.heads_cons (Z.hq_val (Z.pv_move (by rfl))) (Z.heads_cons (Z.hq_val (Z.pv_loadA (by rfl) (by repeat (first | with_reducible exact Z.Take.here | apply Z.Take.there)) Try.isAgg61 (by exact Try.sizeOf61) (by rfl))) (Z.heads_cons (Z.hq_callD (by rfl) (by rfl) (by rfl) isFn40 (by repeat (first | with_reducible exact Z.Takes.nil | (apply Z.Takes.cons; (repeat (first | with_reducible exact Z.Take.here | apply Z.Take.there))))) (by repeat (first | with_reducible exact Z.Takes.nil | (apply Z.Takes.cons; (repeat (first | with_reducible exact Z.Take.here | apply Z.Take.there))))) (hi_spec _ _ _ (by assumption) (by assumption) (by assumption))) (Z.heads_cons (Z.hq_val (Z.pv_fieldAddr (o' := 0) (by rfl) Try.underlying44 (by rfl) (by exact Try.sizeOf30) (by rfl))) (Z.heads_cons (Z.hq_val (Z.pv_load1 (by rfl) (by repeat (first | with_reducible exact Z.Take.here | apply Z.Take.there)) Try.isAgg30 (by rfl))) (Z.heads_cons (Z.hq_val (Z.pv_is (Z.pv_lss (by rfl) (by rfl)) (Z.bool_f hd15))) (Z.heads_cons (Z.hq_val (Z.pv_pick (by rfl) (by rfl))) (Z.heads_cons (Z.hq_val (Z.pv_move (by rfl))) (Z.heads_cons (Z.hq_val (Z.pv_fieldAddr (o' := 1) (by rfl) Try.underlying44 (by rfl) (by exact Try.sizeOf30) (by rfl))) (Z.heads_cons (Z.hq_val (Z.pv_load1 (by rfl) (by repeat (first | with_reducible exact Z.Take.here | apply Z.Take.there)) Try.isAgg30 (by rfl))) (Z.heads_cons (Z.hq_val (Z.pv_fieldAddr (o' := 0) (by rfl) Try.underlying44 (by rfl) (by exact Try.sizeOf30) (by rfl))) (Z.heads_cons (Z.hq_val (Z.pv_load1 (by rfl) (by repeat (first | with_reducible exact Z.Take.here | apply Z.Take.there)) Try.isAgg30 (by rfl))) (Z.heads_cons (Z.hq_val (Z.pv_lss (by rfl) (by rfl))) (Z.heads_cons (Z.hq_val (Z.pv_pick (by rfl) (by rfl))) (Z.heads_cons (Z.hq_val (Z.pv_assign (by rfl))) Z.heads_nil)))))))))))))))))))) ?_
      refine Z.j_nil ?_
      refine Z.j_then ?_
      refine Z.j_ret ?_
      refine Z.j_done_ret (Z.rv1 (Z.rv_tmp (t := 4) rfl)) ?_
      exact Z.post_of ⟨by first | rw [outB_1 hd9] | rw [outB_2 hd9 hd15] | rw [outB_3 hd9 hd15], rfl⟩ (by repeat (first | with_reducible exact Z.Takes.nil | (apply Z.Takes.cons; (repeat (first | with_reducible exact Z.Take.here | apply Z.Take.there))))) (by repeat (first | with_reducible exact Z.Drop.nil | apply Z.Drop.cons))

set_option maxHeartbeats 4000000 in
set_option maxRecDepth 100000 in
theorem whole_spec (w0 : World) : Z.FnD Try.prog w0 22 [] [] (.agg #[.int .u32 0, .int .i64 32]) [] := by
  refine Z.Fn.fnD ?_
  refine Z.fn_enter (n := 2) Try.func22 rfl (by rfl) (by rfl) (fun Fr => ?_)
  refine Z.j_app (by repeat (first | exact Z.App.nil | apply Z.App.cons)) ?_
  refine Z.j_seq ?_
  refine Z.j_region ?_
  refine Z.s_alloc Try.zeroValue61 (fun b0 => ?_)
  refine Z.j_nil ?_
  refine Z.j_then ?_
  refine Z.j_seq ?_
  refine Z.j_region ?_
  refine Z.s_val (Z.pv_build rfl Try.zeroValue61 pl61 rfl) ?_
  refine Z.s_storeA rfl rfl Try.sizeOf61 rfl (by repeat (first | with_reducible exact Z.Upd.here | apply Z.Upd.there)) (by rfl) ?_
  refine Z.j_nil ?_
  refine Z.j_then ?_
  refine Z.j_ret ?_
  refine Z.j_done_ret (Z.rv1 (Z.rv_cellA (x := 0) (T := 61) rfl (by repeat (first | with_reducible exact Z.Take.here | apply Z.Take.there)) Try.isAgg61 Try.sizeOf61 (by rfl))) ?_
  exact Z.post_of ⟨rfl, rfl⟩ (by repeat (first | with_reducible exact Z.Takes.nil | (apply Z.Takes.cons; (repeat (first | with_reducible exact Z.Take.here | apply Z.Take.there))))) (by repeat (first | with_reducible exact Z.Drop.nil | apply Z.Drop.cons))

set_option maxHeartbeats 4000000 in
set_option maxRecDepth 100000 in
theorem halves_spec (w0 : World) (lo : Int) (h : Nat) (hh : h ≤ 31) (h0 : 0 ≤ lo) (h1 : lo + pw (h + 1) ≤ 4294967296) : Z.FnD Try.prog w0 35 [.agg #[.int .u32 lo, .int .i64 (h + 1 : Nat)]] [] (.tuple #[.agg #[.int .u32 lo, .int .i64 h], .agg #[.int .u32 (lo + pw h), .int .i64 h]]) [] := by
  have hp1 := pw_pos h
  rw [pw_succ] at h1
  refine Z.Fn.fnD ?_
  refine Z.fn_enter (n := 19) Try.func35 rfl (by rfl) (by rfl) (fun Fr => ?_)
  refine Z.j_app (by repeat (first | exact Z.App.nil | apply Z.App.cons)) ?_
  refine Z.j_seq ?_
  refine Z.j_region ?_
  refine Z.s_box rfl (fun b1 => ?_)
  refine Z.s_alloc Try.zeroValue61 (fun b2 => ?_)
  refine Z.s_alloc Try.zeroValue61 (fun b3 => ?_)
  refine Z.j_nil ?_
  refine Z.j_then ?_
  refine Z.j_seq ?_
  refine Z.j_region ?_
  refine Z.s_val (Z.pv_fieldAddr (o' := 1) rfl Try.underlying61 rfl Try.sizeOf3 rfl) ?_
  refine Z.s_val (Z.pv_load1 rfl (by repeat (first | with_reducible exact Z.Take.here | apply Z.Take.there)) Try.isAgg3 (by rfl)) ?_
  refine Z.s_val (Z.pv_sub (c := (h : Int)) rfl rfl (by rw [show ((h + 1 : Nat) : Int) - 1 = h by omega]; exact IntWalk.i64_in _ (by omega))) ?_
  refine Z.s_val (Z.pv_assign rfl) ?_
  refine Z.j_nil ?_
  refine Z.j_then ?_
  refine Z.j_seq ?_
  refine Z.j_drawC (vals := [_, _, _, _, _, _, _, _, _, _, _, _, _]) 13 [11, 12] [.fl, .pin 0, .fl, .fl, .fl, .fl, .fl, .fl, .fl, .fl, .fl, .ch 0, .ch 1] [Z.cl b1 _ _] [_, _, _] (by kernel_rfl) (by kernel_rfl) (by kernel_rfl) rfl (by rfl) rfl (by repeat (first | with_reducible exact Z.Takes.nil | (apply Z.Takes.cons; (repeat (first | with_reducible exact Z.Take.here | apply Z.Take.there))))) (Z.hc_cons (Z.hk_fl (Z.pv_fieldAddr (o' := 0) (by rfl) Try.underlying61 (by rfl) (by exact Try.sizeOf30) (by rfl))) (Z.hc_cons (Z.hk_pin (by rfl) (Z.pv_load1 (by rfl) (by repeat (first | with_reducible exact Z.Take.here | apply Z.Take.there)) Try.isAgg30 (by rfl))) (Z.hc_cons (Z.hk_fl (Z.pv_move (by rfl))) (Z.hc_cons (Z.hk_fl (Z.pv_build (by rfl) Try.zeroValue61 pl61 (by rfl))) (Z.hc_cons (Z.hk_fl (Z.pv_fieldAddr (o' := 0) (by rfl) Try.underlying61 (by rfl) (by exact Try.sizeOf30) (by rfl))) (Z.hc_cons (Z.hk_fl (Z.pv_load1 (by rfl) (by repeat (first | with_reducible exact Z.Take.here | apply Z.Take.there)) Try.isAgg30 (by rfl))) (Z.hc_cons (Z.hk_fl (Z.pv_move (by rfl))) (Z.hc_cons (Z.hk_fl (Z.pv_shl (by rfl) (by rfl) (by omega) (shl_u32 hh))) (Z.hc_cons (Z.hk_fl (Z.pv_add (by rfl) (by rfl) (by first | exact IntWalk.u32_in _ (by omega) | rfl))) (Z.hc_cons (Z.hk_fl (Z.pv_move (by rfl))) (Z.hc_cons (Z.hk_fl (Z.pv_build (by rfl) Try.zeroValue61 pl61 (by rfl))) (Z.hc_cons (Z.hk_storeA (by rfl) (by rfl) (by rfl) (by exact Try.sizeOf61) (by rfl) (by repeat (first | with_reducible exact Z.Upd.here | apply Z.Upd.there)) (by rfl) (by rfl)) (Z.hc_cons (Z.hk_storeA (by rfl) (by rfl) (by rfl) (by exact Try.sizeOf61) (by rfl) (by repeat (first | with_reducible exact Z.Upd.here | apply Z.Upd.there)) (by rfl) (by rfl)) Z.hc_nil))))))))))))) (Z.Holds.cons (by repeat (first | with_reducible exact Z.Takes.nil | (apply Z.Takes.cons; (repeat (first | with_reducible exact Z.Take.here | apply Z.Take.there))))) (Z.Holds.cons (by repeat (first | with_reducible exact Z.Takes.nil | (apply Z.Takes.cons; (repeat (first | with_reducible exact Z.Take.here | apply Z.Take.there))))) (Z.Holds.cons (by repeat (first | with_reducible exact Z.Takes.nil | (apply Z.Takes.cons; (repeat (first | with_reducible exact Z.Take.here | apply Z.Take.there))))) Z.Holds.nil))) rfl rfl ?_
  refine Z.j_nil ?_
  refine Z.j_then ?_
  refine Z.j_ret ?_
  refine Z.j_done_ret (Z.rv2 (Z.rv_cellA (x := 2) (T := 61) rfl (by repeat (first | with_reducible exact Z.Take.here | apply Z.Take.there)) Try.isAgg61 Try.sizeOf61 (by rfl)) (Z.rv_cellA (x := 3) (T := 61) rfl (by repeat (first | with_reducible exact Z.Take.here | apply Z.Take.there)) Try.isAgg61 Try.sizeOf61 (by rfl))) ?_
  exact Z.post_of ⟨rfl, rfl⟩ (by repeat (first | with_reducible exact Z.Takes.nil | (apply Z.Takes.cons; (repeat (first | with_reducible exact Z.Take.here | apply Z.Take.there))))) (by repeat (first | with_reducible exact Z.Drop.nil | apply Z.Drop.cons))

end Go.Proofs.Ytggndcaehjdklaa
