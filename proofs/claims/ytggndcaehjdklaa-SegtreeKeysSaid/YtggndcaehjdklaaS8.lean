/- Segtree: the law's own first call. -/
import Derived.Test.YtggndcaehjdklaaS7
import Derived.Test.YtggndcaehjdklaaZ8
import Derived.Test.YtggndcaehjdklaaV
namespace Go.Proofs.Ytggndcaehjdklaa
open Go Go.RowKit

theorem kU32 : Z.KeyOK Try.prog 30 (Value.int .u32) := Z.keyOK_int Try.underlying30
theorem eq41 (a b c d e f g h : Int) (w : World) : (Op.eqFields 9999 [Value.int .i64 a, .int .i64 b, .int .i64 c, .int .i64 d].toArray [Value.int .i64 e, .int .i64 f, .int .i64 g, .int .i64 h].toArray [{ name := "Count", type := 3, offset := 0, embedded := false, tag := "", pkgPath := "", byteOffset := 0 },
        { name := "Sum", type := 2, offset := 1, embedded := false, tag := "", pkgPath := "", byteOffset := 8 },
        { name := "Min", type := 2, offset := 2, embedded := false, tag := "", pkgPath := "", byteOffset := 16 },
        { name := "Max", type := 2, offset := 3, embedded := false, tag := "", pkgPath := "", byteOffset := 24 }]).run Try.prog w = .ok (decide (a = e ∧ b = f ∧ c = g ∧ d = h)) w := by
  simp [Op.eqFields, part, Try.isAgg2, Try.isAgg3, Result.andThen, run_equalIn_int _ 9998 _ _ _ _ _ Try.underlying2, run_equalIn_int _ 9998 _ _ _ _ _ Try.underlying3]
  (repeat' split) <;> simp_all

set_option maxHeartbeats 4000000 in
set_option maxRecDepth 100000 in
theorem has_spec (w0 : World) (b : Nat) (m : List (Int × Int)) (k : Int) (bs : List Nat) (clock : Nat) (hk : Z.BOK m bs clock) : Z.FnD Try.prog w0 9 [.map (some b), .int .u32 k] [Z.MapB b (Value.int .u32) (Value.int .i64) m bs clock] (.bool (Z.mget k m).isSome) [Z.MapB b (Value.int .u32) (Value.int .i64) m bs clock] := by
  refine Z.Fn.fnD ?_
  refine Z.fn_enter (n := 14) Try.func9 rfl (by rfl) (by rfl) (fun Fr => ?_)
  refine Z.j_app (by repeat (first | exact Z.App.nil | apply Z.App.cons)) ?_
  refine Z.j_seq ?_
  refine Z.j_region ?_
  refine Z.s_val (Z.pv_assign rfl) ?_
  refine Z.j_nil ?_
  refine Z.j_then ?_
  refine Z.j_seq ?_
  refine Z.j_region ?_
  refine Z.s_val (Z.pv_move rfl) ?_
  refine Z.s_val (Z.pv_move rfl) ?_
  refine Z.s_val (Z.pv_lookupOkB hk rfl rfl Try.underlying29 kU32 Try.zeroValue2 (by repeat (first | with_reducible exact Z.Take.here | apply Z.Take.there))) ?_
  refine Z.s_val (Z.pv_move rfl) ?_
  refine Z.s_val (Z.pv_extract rfl rfl) ?_
  refine Z.s_val (Z.pv_extract rfl rfl) ?_
  refine Z.s_val (Z.pv_assign rfl) ?_
  refine Z.s_val (Z.pv_assign rfl) ?_
  refine Z.j_nil ?_
  refine Z.j_then ?_
  refine Z.j_seq ?_
  refine Z.j_region ?_
  refine Z.s_val (Z.pv_move rfl) ?_
  refine Z.s_val (Z.pv_assign rfl) ?_
  refine Z.j_nil ?_
  refine Z.j_then ?_
  refine Z.j_ret ?_
  refine Z.j_done_ret (Z.rv1 (Z.rv_tmp (t := 4) rfl)) ?_
  exact Z.post_of ⟨rfl, rfl⟩ (by repeat (first | with_reducible exact Z.Takes.nil | (apply Z.Takes.cons; (repeat (first | with_reducible exact Z.Take.here | apply Z.Take.there))))) (by repeat (first | with_reducible exact Z.Drop.nil | apply Z.Drop.cons))

set_option linter.unusedSimpArgs false
section
attribute [local irreducible] Ar.putT Ar.putE Ar.foldA Ar.foldT Ar.killT Ar.walked Ar.pairs

set_option maxHeartbeats 4000000 in
set_option maxRecDepth 100000 in
theorem alive_spec (w0 : World) : Z.FnD Try.prog w0 4 [] [] (.bool true) [] := by
  have k0 : (Ar.mk [] 34).ok := ⟨by decide, by simp⟩
  have k1 := putT_ok (r := 0) (key := 2) (v := 5) k0 (by omega)
  have k1' := k1.2
  have k2 := putT_ok (key := 3) (v := -1) k1.2 k1.1
  have k2' := k2.2
  have k3 := putT_ok (key := 2147483648) (v := 1) k2.2 k2.1
  have k3' := k3.2
  have k4 := foldT_ok (r := (Ar.putT (Ar.putT (Ar.putT (Ar.mk [] 34) 0 2 5).2 (Ar.putT (Ar.mk [] 34) 0 2 5).1 3 (-1)).2 (Ar.putT (Ar.putT (Ar.mk [] 34) 0 2 5).2 (Ar.putT (Ar.mk [] 34) 0 2 5).1 3 (-1)).1 2147483648 1).1) (s := 0) (t := 9) k3.2
  have k5 := foldT_ok (r := (Ar.putT (Ar.putT (Ar.putT (Ar.mk [] 34) 0 2 5).2 (Ar.putT (Ar.mk [] 34) 0 2 5).1 3 (-1)).2 (Ar.putT (Ar.putT (Ar.mk [] 34) 0 2 5).2 (Ar.putT (Ar.mk [] 34) 0 2 5).1 3 (-1)).1 2147483648 1).1) (s := 3) (t := 3) k4
  have k6 := walked_ok (r := (Ar.putT (Ar.putT (Ar.putT (Ar.mk [] 34) 0 2 5).2 (Ar.putT (Ar.mk [] 34) 0 2 5).1 3 (-1)).2 (Ar.putT (Ar.putT (Ar.mk [] 34) 0 2 5).2 (Ar.putT (Ar.mk [] 34) 0 2 5).1 3 (-1)).1 2147483648 1).1) k5
  have k7 := killT_ok (r := (Ar.putT (Ar.putT (Ar.putT (Ar.mk [] 34) 0 2 5).2 (Ar.putT (Ar.mk [] 34) 0 2 5).1 3 (-1)).2 (Ar.putT (Ar.putT (Ar.mk [] 34) 0 2 5).2 (Ar.putT (Ar.mk [] 34) 0 2 5).1 3 (-1)).1 2147483648 1).1) (s := 3) (t := 4294967295) k6
  have k8 := foldT_ok (r := (Ar.putT (Ar.putT (Ar.putT (Ar.mk [] 34) 0 2 5).2 (Ar.putT (Ar.mk [] 34) 0 2 5).1 3 (-1)).2 (Ar.putT (Ar.putT (Ar.mk [] 34) 0 2 5).2 (Ar.putT (Ar.mk [] 34) 0 2 5).1 3 (-1)).1 2147483648 1).1) (s := 3) (t := 3) k7
  have k9 := killT_ok (r := (Ar.putT (Ar.putT (Ar.putT (Ar.mk [] 34) 0 2 5).2 (Ar.putT (Ar.mk [] 34) 0 2 5).1 3 (-1)).2 (Ar.putT (Ar.putT (Ar.mk [] 34) 0 2 5).2 (Ar.putT (Ar.mk [] 34) 0 2 5).1 3 (-1)).1 2147483648 1).1) (s := 2) (t := 2) k8
  obtain ⟨f0, f1, f2, f3, f4, ⟨f5, f6, f7, f8⟩, ⟨f9, f10⟩, f11, f12, f13, f14, f15⟩ := alive_facts _ _ _ _ _ _ _ _ _ rfl rfl rfl rfl rfl rfl rfl rfl rfl
  refine Z.Fn.fnD ?_
  refine Z.fn_enter (n := 101) Try.func4 rfl (by rfl) (by rfl) (fun Fr => ?_)
  refine Z.j_app (by repeat (first | exact Z.App.nil | apply Z.App.cons)) ?_
  refine Z.j_seq ?_
  refine Z.j_region ?_
  refine Z.s_val (Z.pv_assign rfl) ?_
  refine Z.j_nil ?_
  refine Z.j_then ?_
  refine Z.j_seq ?_
  refine Z.j_region ?_
  refine Z.s_call rfl rfl rfl isFn5 (by repeat (first | with_reducible exact Z.Takes.nil | (apply Z.Takes.cons; (repeat (first | with_reducible exact Z.Take.here | apply Z.Take.there))))) (new_spec _ _ (by omega)) ?_
  rintro _ _ ⟨tb, ab, rfl, rfl⟩
  refine Z.j_app (by repeat (first | exact Z.App.nil | apply Z.App.cons)) ?_
  refine Z.s_val (Z.pv_move rfl) ?_
  refine Z.s_val (Z.pv_extract rfl rfl) ?_
  refine Z.s_val (Z.pv_extract rfl rfl) ?_
  refine Z.s_val (Z.pv_assign rfl) ?_
  refine Z.s_val (Z.pv_assign rfl) ?_
  refine Z.j_nil ?_
  refine Z.j_then ?_
  refine Z.j_seq ?_
  refine Z.j_seq ?_
  refine Z.j_region ?_
  refine Z.s_val (Z.pv_move rfl) ?_
  refine Z.s_val (Z.pv_eqnil rfl rfl Try.underlying25) ?_
  refine Z.j_nil ?_
  refine Z.j_then ?_
  refine Z.j_cond rfl (fun hc19 => ?_) (fun hc19 => ?_)
  · try (with_reducible first | replace hc19 := of_decide_eq_true hc19 | replace hc19 := of_decide_eq_false hc19 | replace hc19 := Z.nd_true hc19 | replace hc19 := Z.nd_false hc19 | replace hc19 := Z.nn_true hc19 | replace hc19 := Z.nn_false hc19 | replace hc19 := Z.nb_true hc19 | replace hc19 := Z.nb_false hc19)
    first
    | (exfalso; first | (cases hc19; done) | omega)
    | skip
      refine Z.j_seq ?_
      refine Z.j_region ?_
      refine Z.s_val (Z.pv_assign rfl) ?_
      refine Z.j_nil ?_
      refine Z.j_then ?_
      refine Z.j_ret ?_
      refine Z.j_then_ret ?_
      refine Z.j_done_ret (Z.rv1 (Z.rv_tmp (t := 0) rfl)) ?_
      exact Z.post_of ⟨by first | rfl | (congr 1; exact decide_eq_true (by omega)) | (congr 1; simp_all; done), rfl⟩ (by repeat (first | with_reducible exact Z.Takes.nil | (apply Z.Takes.cons; (repeat (first | with_reducible exact Z.Take.here | apply Z.Take.there))))) (by repeat (first | with_reducible exact Z.Drop.nil | apply Z.Drop.cons))
  · try (with_reducible first | replace hc19 := of_decide_eq_true hc19 | replace hc19 := of_decide_eq_false hc19 | replace hc19 := Z.nd_true hc19 | replace hc19 := Z.nd_false hc19 | replace hc19 := Z.nn_true hc19 | replace hc19 := Z.nn_false hc19 | replace hc19 := Z.nb_true hc19 | replace hc19 := Z.nb_false hc19)
    first
    | (exfalso; first | (cases hc19; done) | omega)
    | skip
      refine Z.j_skip ?_
      refine Z.j_then ?_
      refine Z.j_seq ?_
      refine Z.j_region ?_
      refine Z.s_val (Z.pv_move rfl) ?_
      refine Z.s_callD rfl rfl rfl isFn6 (by repeat (first | with_reducible exact Z.Takes.nil | (apply Z.Takes.cons; (repeat (first | with_reducible exact Z.Take.here | apply Z.Take.there))))) (by repeat (first | exact Z.App.nil | apply Z.App.cons)) (put_spec _ _ _ _ _ _ _ (by assumption) (by omega) (by omega)) ?_
      refine Z.s_val (Z.pv_move rfl) ?_
      refine Z.s_callD rfl rfl rfl isFn7 (by repeat (first | with_reducible exact Z.Takes.nil | (apply Z.Takes.cons; (repeat (first | with_reducible exact Z.Take.here | apply Z.Take.there))))) (by repeat (first | exact Z.App.nil | apply Z.App.cons)) (nodes_spec _ _ _ _ _) ?_
      refine Z.s_val (Z.pv_assign rfl) ?_
      refine Z.s_val (Z.pv_assign rfl) ?_
      refine Z.j_nil ?_
      refine Z.j_then ?_
      refine Z.j_seq ?_
      refine Z.j_region ?_
      refine Z.s_val (Z.pv_move rfl) ?_
      refine Z.s_callD rfl rfl rfl isFn6 (by repeat (first | with_reducible exact Z.Takes.nil | (apply Z.Takes.cons; (repeat (first | with_reducible exact Z.Take.here | apply Z.Take.there))))) (by repeat (first | exact Z.App.nil | apply Z.App.cons)) (put_spec _ _ _ _ _ _ _ (by assumption) (by omega) (by omega)) ?_
      refine Z.s_val (Z.pv_assign rfl) ?_
      refine Z.j_nil ?_
      refine Z.j_then ?_
      refine Z.j_seq ?_
      refine Z.j_seq ?_
      refine Z.j_region ?_
      refine Z.s_val (Z.pv_move rfl) ?_
      refine Z.s_val (Z.pv_neq rfl rfl) ?_
      refine Z.s_val (Z.pv_move rfl) ?_
      refine Z.s_is 28 rfl (show _ = Value.bool false from (by first | rfl | exact Z.bool_f (by omega) | exact congrArg Value.bool (by simp [f1, f13, f15]))) ?_
      refine Z.s_val (Z.pv_move rfl) ?_
      refine Z.s_callD rfl rfl rfl isFn7 (by repeat (first | with_reducible exact Z.Takes.nil | (apply Z.Takes.cons; (repeat (first | with_reducible exact Z.Take.here | apply Z.Take.there))))) (by repeat (first | exact Z.App.nil | apply Z.App.cons)) (nodes_spec _ _ _ _ _) ?_
      refine Z.s_val (Z.pv_neq rfl rfl) ?_
      refine Z.s_val (Z.pv_pick rfl rfl) ?_
      refine Z.j_nil ?_
      refine Z.j_then ?_
      refine Z.j_cond rfl (fun hc32 => ?_) (fun hc32 => ?_)
      · exfalso; first | (cases hc32; done) | (simp at hc32; done) | (simp at hc32; omega)
      · try (with_reducible first | replace hc32 := of_decide_eq_true hc32 | replace hc32 := of_decide_eq_false hc32 | replace hc32 := Z.nd_true hc32 | replace hc32 := Z.nd_false hc32 | replace hc32 := Z.nn_true hc32 | replace hc32 := Z.nn_false hc32 | replace hc32 := Z.nb_true hc32 | replace hc32 := Z.nb_false hc32)
        first
        | (exfalso; first | (cases hc32; done) | omega)
        | skip
          refine Z.j_skip ?_
          refine Z.j_then ?_
          refine Z.j_seq ?_
          refine Z.j_region ?_
          refine Z.s_val (Z.pv_move rfl) ?_
          refine Z.s_callD rfl rfl rfl isFn6 (by repeat (first | with_reducible exact Z.Takes.nil | (apply Z.Takes.cons; (repeat (first | with_reducible exact Z.Take.here | apply Z.Take.there))))) (by repeat (first | exact Z.App.nil | apply Z.App.cons)) (put_spec _ _ _ _ _ _ _ (by assumption) (by omega) (by omega)) ?_
          refine Z.s_val (Z.pv_assign rfl) ?_
          refine Z.j_nil ?_
          refine Z.j_then ?_
          refine Z.j_seq ?_
          refine Z.j_region ?_
          refine Z.s_val (Z.pv_move rfl) ?_
          refine Z.s_val (Z.pv_build rfl Try.zeroValue44 pl44 rfl) ?_
          refine Z.s_callD rfl rfl rfl isFn11 (by repeat (first | with_reducible exact Z.Takes.nil | (apply Z.Takes.cons; (repeat (first | with_reducible exact Z.Take.here | apply Z.Take.there))))) (by repeat (first | exact Z.App.nil | apply Z.App.cons)) (Fold_spec _ _ _ _ _ _ _ (by assumption) (by omega)) ?_
          refine Z.s_alloc Try.zeroValue41 (fun b7 => ?_)
          refine Z.s_storeA rfl rfl Try.sizeOf41 rfl (by repeat (first | with_reducible exact Z.Upd.here | apply Z.Upd.there)) (by rfl) ?_
          refine Z.j_nil ?_
          refine Z.j_then ?_
          refine Z.j_seq ?_
          refine Z.j_region ?_
          refine Z.s_val (Z.pv_move rfl) ?_
          refine Z.s_callD rfl rfl rfl isFn8 (by repeat (first | with_reducible exact Z.Takes.nil | (apply Z.Takes.cons; (repeat (first | with_reducible exact Z.Take.here | apply Z.Take.there))))) (by repeat (first | exact Z.App.nil | apply Z.App.cons)) (Get_spec _ _ _ _ _ _ (by assumption) (by omega)) ?_
          refine Z.s_val (Z.pv_move rfl) ?_
          refine Z.s_val (Z.pv_extract rfl rfl) ?_
          refine Z.s_val (Z.pv_extract rfl rfl) ?_
          refine Z.s_val (Z.pv_assign rfl) ?_
          refine Z.s_val (Z.pv_assign rfl) ?_
          refine Z.j_nil ?_
          refine Z.j_then ?_
          refine Z.j_seq ?_
          refine Z.j_region ?_
          refine Z.s_val (Z.pv_move rfl) ?_
          refine Z.s_call rfl rfl rfl isFn10 (by repeat (first | with_reducible exact Z.Takes.nil | (apply Z.Takes.cons; (repeat (first | with_reducible exact Z.Take.here | apply Z.Take.there))))) (pairs_spec _ _ _ _ _ _ (by assumption) (by omega) (by omega) (by omega)) ?_
          rintro _ _ rfl
          refine Z.j_app (by repeat (first | exact Z.App.nil | apply Z.App.cons)) ?_
          refine Z.s_val (Z.pv_assign rfl) ?_
          refine Z.j_nil ?_
          refine Z.j_then ?_
          refine Z.j_seq ?_
          refine Z.j_region ?_
          refine Z.s_val (Z.pv_move rfl) ?_
          refine Z.s_val (Z.pv_build rfl Try.zeroValue44 pl44 rfl) ?_
          refine Z.s_callD rfl rfl rfl isFn12 (by repeat (first | with_reducible exact Z.Takes.nil | (apply Z.Takes.cons; (repeat (first | with_reducible exact Z.Take.here | apply Z.Take.there))))) (by repeat (first | exact Z.App.nil | apply Z.App.cons)) (Kill_spec _ _ _ _ _ _ _ (by assumption) (by omega)) ?_
          refine Z.s_val (Z.pv_assign rfl) ?_
          refine Z.j_nil ?_
          refine Z.j_then ?_
          refine Z.j_seq ?_
          refine Z.j_region ?_
          refine Z.s_val (Z.pv_move rfl) ?_
          refine Z.s_callD rfl rfl rfl isFn8 (by repeat (first | with_reducible exact Z.Takes.nil | (apply Z.Takes.cons; (repeat (first | with_reducible exact Z.Take.here | apply Z.Take.there))))) (by repeat (first | exact Z.App.nil | apply Z.App.cons)) (Get_spec _ _ _ _ _ _ (by assumption) (by omega)) ?_
          refine Z.s_val (Z.pv_move rfl) ?_
          refine Z.s_val (Z.pv_extract rfl rfl) ?_
          refine Z.s_val (Z.pv_extract rfl rfl) ?_
          refine Z.s_val (Z.pv_assign rfl) ?_
          refine Z.s_val (Z.pv_assign rfl) ?_
          refine Z.j_nil ?_
          refine Z.j_then ?_
          refine Z.j_seq ?_
          refine Z.j_region ?_
          refine Z.s_val (Z.pv_move rfl) ?_
          refine Z.s_val (Z.pv_eql rfl rfl) ?_
          refine Z.s_val (Z.pv_move rfl) ?_
          refine Z.s_is 55 rfl (show _ = Value.bool true from (by first | rfl | exact Z.bool_t (by omega) | exact congrArg Value.bool (by simp [f1, f13, f15]))) ?_
          refine Z.s_val (Z.pv_move rfl) ?_
          refine Z.s_val (Z.pv_eql rfl rfl) ?_
          refine Z.s_val (Z.pv_pick rfl rfl) ?_
          refine Z.s_val (Z.pv_move rfl) ?_
          refine Z.s_is 59 rfl (show _ = Value.bool true from (by first | rfl | exact Z.bool_t (by omega) | exact congrArg Value.bool (by simp [f1, f13, f15]))) ?_
          refine Z.s_val (Z.pv_move rfl) ?_
          refine Z.s_val (Z.pv_eql rfl rfl) ?_
          refine Z.s_val (Z.pv_pick rfl rfl) ?_
          refine Z.s_val (Z.pv_move rfl) ?_
          refine Z.s_is 63 rfl (show _ = Value.bool true from (by first | rfl | exact Z.bool_t (by omega) | exact congrArg Value.bool (by simp [f1, f13, f15]))) ?_
          refine Z.s_val (Z.pv_move rfl) ?_
          refine Z.s_val (Z.pv_eql rfl rfl) ?_
          refine Z.s_val (Z.pv_pick rfl rfl) ?_
          refine Z.s_val (Z.pv_move rfl) ?_
          refine Z.s_is 67 rfl (show _ = Value.bool true from (by first | rfl | exact Z.bool_t (by omega) | exact congrArg Value.bool (by simp [f1, f13, f15]))) ?_
          refine Z.s_val (Z.pv_loadA rfl (by repeat (first | with_reducible exact Z.Take.here | apply Z.Take.there)) Try.isAgg41 Try.sizeOf41 (by rfl)) ?_
          refine Z.s_val (Z.pv_build rfl Try.zeroValue41 pl41 rfl) ?_
          refine Z.s_val (Z.pv_eqA rfl rfl Try.eqGuardType41 Try.underlying41 Try.stoodInHeld41 (eq41 _ _ _ _ _ _ _ _) rfl) ?_
          refine Z.s_val (Z.pv_pick rfl rfl) ?_
          refine Z.s_val (Z.pv_move rfl) ?_
          refine Z.s_is 72 rfl (show _ = Value.bool true from (by first | rfl | exact Z.bool_t (by omega) | exact congrArg Value.bool (by simp [f1, f13, f15]))) ?_
          refine Z.s_val (Z.pv_move rfl) ?_
          refine Z.s_val (Z.pv_eql rfl rfl) ?_
          refine Z.s_val (Z.pv_pick rfl rfl) ?_
          refine Z.s_val (Z.pv_move rfl) ?_
          refine Z.s_is 76 rfl (show _ = Value.bool true from (by first | rfl | exact Z.bool_t (by omega) | exact congrArg Value.bool (by simp [f1, f13, f15]))) ?_
          refine Z.s_val (Z.pv_move rfl) ?_
          refine Z.s_val (Z.pv_pick rfl rfl) ?_
          refine Z.s_val (Z.pv_move rfl) ?_
          refine Z.s_is 79 rfl (show _ = Value.bool true from (by first | rfl | exact Z.bool_t (by omega) | exact congrArg Value.bool (by simp [f1, f13, f15]))) ?_
          refine Z.s_val (Z.pv_move rfl) ?_
          refine Z.s_val (Z.pv_lenO rfl (by repeat (first | with_reducible exact Z.Take.here | apply Z.Take.there)) Try.underlying36) ?_
          refine Z.s_val (Z.pv_eql rfl rfl) ?_
          refine Z.s_val (Z.pv_pick rfl rfl) ?_
          refine Z.s_val (Z.pv_move rfl) ?_
          refine Z.s_is 84 rfl (show _ = Value.bool true from (by first | rfl | exact Z.bool_t (by omega) | exact congrArg Value.bool (by simp [f1, f13, f15]))) ?_
          refine Z.s_val (Z.pv_move rfl) ?_
          refine Z.s_val (Z.pv_eql rfl rfl) ?_
          refine Z.s_val (Z.pv_pick rfl rfl) ?_
          refine Z.s_val (Z.pv_move rfl) ?_
          refine Z.s_is 88 rfl (show _ = Value.bool true from (by first | rfl | exact Z.bool_t (by omega) | exact congrArg Value.bool (by simp [f1, f13, f15]))) ?_
          refine Z.s_val (Z.pv_move rfl) ?_
          refine Z.s_val (Z.pv_not rfl) ?_
          refine Z.s_val (Z.pv_pick rfl rfl) ?_
          refine Z.s_val (Z.pv_move rfl) ?_
          refine Z.s_is 92 rfl (show _ = Value.bool true from (by first | rfl | exact Z.bool_t (by omega) | exact congrArg Value.bool (by simp [f1, f13, f15]))) ?_
          refine Z.s_val (Z.pv_move rfl) ?_
          refine Z.s_callD rfl rfl rfl isFn13 (by repeat (first | with_reducible exact Z.Takes.nil | (apply Z.Takes.cons; (repeat (first | with_reducible exact Z.Take.here | apply Z.Take.there))))) (by repeat (first | exact Z.App.nil | apply Z.App.cons)) (Drop_spec _ _ _ _ _ _ (by assumption) (by omega)) ?_
          refine Z.s_val (Z.pv_pick rfl rfl) ?_
          refine Z.s_val (Z.pv_move rfl) ?_
          refine Z.s_is 96 rfl (show _ = Value.bool true from (by first | rfl | exact Z.bool_t (by omega) | exact congrArg Value.bool (by simp [f1, f13, f15]))) ?_
          refine Z.s_val (Z.pv_move rfl) ?_
          refine Z.s_callD rfl rfl rfl isFn13 (by repeat (first | with_reducible exact Z.Takes.nil | (apply Z.Takes.cons; (repeat (first | with_reducible exact Z.Take.here | apply Z.Take.there))))) (by repeat (first | exact Z.App.nil | apply Z.App.cons)) (Drop_spec _ _ _ _ _ _ (by assumption) (by omega)) ?_
          refine Z.s_val (Z.pv_not rfl) ?_
          refine Z.s_val (Z.pv_pick rfl rfl) ?_
          refine Z.s_val (Z.pv_assign rfl) ?_
          refine Z.j_nil ?_
          refine Z.j_then ?_
          refine Z.j_ret ?_
          refine Z.j_done_ret (Z.rv1 (Z.rv_tmp (t := 0) rfl)) ?_
          exact Z.post_of ⟨by first | rfl | (congr 1; exact decide_eq_true (by omega)) | (congr 1; simp_all; done), rfl⟩ (by repeat (first | with_reducible exact Z.Takes.nil | (apply Z.Takes.cons; (repeat (first | with_reducible exact Z.Take.here | apply Z.Take.there))))) (by repeat (first | with_reducible exact Z.Drop.nil | apply Z.Drop.cons))

end

end Go.Proofs.Ytggndcaehjdklaa
