/- Segtree: what a tree is asked. -/
import Derived.Test.YtggndcaehjdklaaS5
namespace Go.Proofs.Ytggndcaehjdklaa
open Go Go.RowKit

def Ar.foldA (A : Ar) (r s t : Int) : Agg := (A.fold s t 32 r 0).1
def Ar.foldT (A : Ar) (r s t : Int) : Ar := (A.fold s t 32 r 0).2
def Ar.pairs (A : Ar) (r : Int) : List (Int × Int) := (Ar.walk 32 A r 0).1
def Ar.walked (A : Ar) (r : Int) : Ar := (Ar.walk 32 A r 0).2
def Ar.killT (A : Ar) (r s t : Int) : Ar := (A.foldT r s t).cut s t 32 r 0
theorem foldT_ok {A : Ar} {r s t : Int} (h : A.ok) : (A.foldT r s t).ok := fold_ok _ _ _ _ _ _ h
theorem killT_ok {A : Ar} {r s t : Int} (h : A.ok) : (A.killT r s t).ok := cut_ok _ _ _ _ _ _ (foldT_ok h)
theorem foldw_spec (w0 : World) (tb ab : Nat) (r : Int) (A : Ar) (s t i : Int) (hA : A.ok) (hi : 0 ≤ i ∧ i ≤ 4194304) : Z.FnD Try.prog w0 21 [.pointer (some ⟨tb, 0, none⟩), .int .i32 i, .agg #[.int .u32 0, .int .i64 32], .agg #[.int .u32 s, .int .u32 t]] [Z.cl tb 52 [.pointer (some ⟨ab, 0, none⟩), .int .i32 r], Arena ab A] (.agg (A.foldA i s t).l.toArray) [Z.cl tb 52 [.pointer (some ⟨ab, 0, none⟩), .int .i32 r], Arena ab (A.foldT i s t)] := fold_all tb ab r s t 32 (by omega) w0 A i 0 hA hi (by omega) (by rw [pw_32]; omega)
theorem cutw_spec (w0 : World) (tb ab : Nat) (r : Int) (A : Ar) (s t i : Int) (hA : A.ok) (hi : 0 ≤ i ∧ i ≤ 4194304) : Z.FnD Try.prog w0 23 [.pointer (some ⟨tb, 0, none⟩), .int .i32 i, .agg #[.int .u32 0, .int .i64 32], .agg #[.int .u32 s, .int .u32 t]] [Z.cl tb 52 [.pointer (some ⟨ab, 0, none⟩), .int .i32 r], Arena ab A] (.tuple #[]) [Z.cl tb 52 [.pointer (some ⟨ab, 0, none⟩), .int .i32 r], Arena ab (A.cut s t 32 i 0)] := cut_all tb ab r s t 32 (by omega) w0 A i 0 hA hi (by omega) (by rw [pw_32]; omega)

set_option maxHeartbeats 4000000 in
set_option maxRecDepth 100000 in
theorem Fold_spec (w0 : World) (tb ab : Nat) (r : Int) (A : Ar) (s t : Int) (hA : A.ok) (hr : 0 ≤ r ∧ r ≤ 4194304) : Z.FnD Try.prog w0 11 [.pointer (some ⟨tb, 0, none⟩), .agg #[.int .u32 s, .int .u32 t]] [Z.cl tb 52 [.pointer (some ⟨ab, 0, none⟩), .int .i32 r], Arena ab A] (.agg (A.foldA r s t).l.toArray) [Z.cl tb 52 [.pointer (some ⟨ab, 0, none⟩), .int .i32 r], Arena ab (A.foldT r s t)] := by
  refine Z.Fn.fnD ?_
  refine Z.fn_enter (n := 13) Try.func11 rfl (by rfl) (by rfl) (fun Fr => ?_)
  refine Z.j_app (by repeat (first | exact Z.App.nil | apply Z.App.cons)) ?_
  refine Z.j_seq ?_
  refine Z.j_region ?_
  refine Z.s_box rfl (fun b3 => ?_)
  refine Z.s_alloc Try.zeroValue41 (fun b4 => ?_)
  refine Z.j_nil ?_
  refine Z.j_then ?_
  refine Z.j_seq ?_
  refine Z.j_draw (vals := [_, _, _, _, _, _, _]) 7 (by kernel_rfl) (by kernel_rfl) rfl (by rfl) (Z.heads_cons (Z.hq_val (Z.pv_move (by rfl))) (Z.heads_cons (Z.hq_val (Z.pv_move (by rfl))) (Z.heads_cons (Z.hq_val (Z.pv_nil (by rfl))) (Z.heads_cons (Z.hq_val (Z.pv_fieldAddr (o' := 1) (by rfl) Try.underlying52 (by rfl) (by exact Try.sizeOf21) (by rfl))) (Z.heads_cons (Z.hq_val (Z.pv_load1 (by rfl) (by repeat (first | with_reducible exact Z.Take.here | apply Z.Take.there)) Try.isAgg21 (by rfl))) (Z.heads_cons (Z.hq_callD (by rfl) (by rfl) (by rfl) isFn22 (by repeat (first | with_reducible exact Z.Takes.nil | (apply Z.Takes.cons; (repeat (first | with_reducible exact Z.Take.here | apply Z.Take.there))))) (by repeat (first | with_reducible exact Z.Takes.nil | (apply Z.Takes.cons; (repeat (first | with_reducible exact Z.Take.here | apply Z.Take.there))))) (whole_spec _)) (Z.heads_cons (Z.hq_val (Z.pv_loadA (by rfl) (by repeat (first | with_reducible exact Z.Take.here | apply Z.Take.there)) Try.isAgg44 (by exact Try.sizeOf44) (by rfl))) Z.heads_nil))))))) ?_
  refine Z.s_callD rfl rfl rfl isFn21 (by repeat (first | with_reducible exact Z.Takes.nil | (apply Z.Takes.cons; (repeat (first | with_reducible exact Z.Take.here | apply Z.Take.there))))) (by repeat (first | exact Z.App.nil | apply Z.App.cons)) (foldw_spec _ _ _ _ _ _ _ _ (by assumption) (by omega)) ?_
  refine Z.s_storeA rfl rfl Try.sizeOf41 rfl (by repeat (first | with_reducible exact Z.Upd.here | apply Z.Upd.there)) (by rfl) ?_
  refine Z.j_nil ?_
  refine Z.j_then ?_
  refine Z.j_ret ?_
  refine Z.j_done_ret (Z.rv1 (Z.rv_cellA (x := 4) (T := 41) rfl (by repeat (first | with_reducible exact Z.Take.here | apply Z.Take.there)) Try.isAgg41 Try.sizeOf41 (by rfl))) ?_
  exact Z.post_of ⟨rfl, rfl⟩ (by repeat (first | with_reducible exact Z.Takes.nil | (apply Z.Takes.cons; (repeat (first | with_reducible exact Z.Take.here | apply Z.Take.there))))) (by repeat (first | with_reducible exact Z.Drop.nil | apply Z.Drop.cons))

set_option maxHeartbeats 4000000 in
set_option maxRecDepth 100000 in
theorem Kill_spec (w0 : World) (tb ab : Nat) (r : Int) (A : Ar) (s t : Int) (hA : A.ok) (hr : 0 ≤ r ∧ r ≤ 4194304) : Z.FnD Try.prog w0 12 [.pointer (some ⟨tb, 0, none⟩), .agg #[.int .u32 s, .int .u32 t]] [Z.cl tb 52 [.pointer (some ⟨ab, 0, none⟩), .int .i32 r], Arena ab A] (.int .i64 (A.foldA r s t).c) [Z.cl tb 52 [.pointer (some ⟨ab, 0, none⟩), .int .i32 r], Arena ab (A.killT r s t)] := by
  have hF := foldT_ok (r := r) (s := s) (t := t) hA
  refine Z.Fn.fnD ?_
  refine Z.fn_enter (n := 19) Try.func12 rfl (by rfl) (by rfl) (fun Fr => ?_)
  refine Z.j_app (by repeat (first | exact Z.App.nil | apply Z.App.cons)) ?_
  refine Z.j_seq ?_
  refine Z.j_region ?_
  refine Z.s_box rfl (fun b3 => ?_)
  refine Z.s_val (Z.pv_assign rfl) ?_
  refine Z.j_nil ?_
  refine Z.j_then ?_
  refine Z.j_seq ?_
  refine Z.j_region ?_
  refine Z.s_val (Z.pv_move rfl) ?_
  refine Z.s_val (Z.pv_loadA rfl (by repeat (first | with_reducible exact Z.Take.here | apply Z.Take.there)) Try.isAgg44 Try.sizeOf44 (by rfl)) ?_
  refine Z.s_callD rfl rfl rfl isFn11 (by repeat (first | with_reducible exact Z.Takes.nil | (apply Z.Takes.cons; (repeat (first | with_reducible exact Z.Take.here | apply Z.Take.there))))) (by repeat (first | exact Z.App.nil | apply Z.App.cons)) (Fold_spec _ _ _ _ _ _ _ (by assumption) (by omega)) ?_
  refine Z.s_val (Z.pv_field1 rfl Try.underlying41 rfl Try.isAgg3 rfl) ?_
  refine Z.s_val (Z.pv_assign rfl) ?_
  refine Z.j_nil ?_
  refine Z.j_then ?_
  refine Z.j_seq ?_
  refine Z.j_draw (vals := [_, _, _, _, _, _, _]) 7 (by kernel_rfl) (by kernel_rfl) rfl (by rfl) (Z.heads_cons (Z.hq_val (Z.pv_move (by rfl))) (Z.heads_cons (Z.hq_val (Z.pv_move (by rfl))) (Z.heads_cons (Z.hq_val (Z.pv_nil (by rfl))) (Z.heads_cons (Z.hq_val (Z.pv_fieldAddr (o' := 1) (by rfl) Try.underlying52 (by rfl) (by exact Try.sizeOf21) (by rfl))) (Z.heads_cons (Z.hq_val (Z.pv_load1 (by rfl) (by repeat (first | with_reducible exact Z.Take.here | apply Z.Take.there)) Try.isAgg21 (by rfl))) (Z.heads_cons (Z.hq_callD (by rfl) (by rfl) (by rfl) isFn22 (by repeat (first | with_reducible exact Z.Takes.nil | (apply Z.Takes.cons; (repeat (first | with_reducible exact Z.Take.here | apply Z.Take.there))))) (by repeat (first | with_reducible exact Z.Takes.nil | (apply Z.Takes.cons; (repeat (first | with_reducible exact Z.Take.here | apply Z.Take.there))))) (whole_spec _)) (Z.heads_cons (Z.hq_val (Z.pv_loadA (by rfl) (by repeat (first | with_reducible exact Z.Take.here | apply Z.Take.there)) Try.isAgg44 (by exact Try.sizeOf44) (by rfl))) Z.heads_nil))))))) ?_
  refine Z.s_callD rfl rfl rfl isFn23 (by repeat (first | with_reducible exact Z.Takes.nil | (apply Z.Takes.cons; (repeat (first | with_reducible exact Z.Take.here | apply Z.Take.there))))) (by repeat (first | exact Z.App.nil | apply Z.App.cons)) (cutw_spec _ _ _ _ _ _ _ _ (by assumption) (by omega)) ?_
  refine Z.j_nil ?_
  refine Z.j_then ?_
  refine Z.j_seq ?_
  refine Z.j_region ?_
  refine Z.s_val (Z.pv_move rfl) ?_
  refine Z.s_val (Z.pv_assign rfl) ?_
  refine Z.j_nil ?_
  refine Z.j_then ?_
  refine Z.j_ret ?_
  refine Z.j_done_ret (Z.rv1 (Z.rv_tmp (t := 4) rfl)) ?_
  exact Z.post_of (Qs := [Z.cl tb 52 [.pointer (some ⟨ab, 0, none⟩), .int .i32 r], Arena ab ((A.foldT r s t).cut s t 32 r 0)]) ⟨rfl, rfl⟩ (by repeat (first | with_reducible exact Z.Takes.nil | (apply Z.Takes.cons; (repeat (first | with_reducible exact Z.Take.here | apply Z.Take.there))))) (by repeat (first | with_reducible exact Z.Drop.nil | apply Z.Drop.cons))

set_option maxHeartbeats 4000000 in
set_option maxRecDepth 100000 in
theorem Drop_spec (w0 : World) (tb ab : Nat) (r : Int) (A : Ar) (key : Int) (hA : A.ok) (hr : 0 ≤ r ∧ r ≤ 4194304) : Z.FnD Try.prog w0 13 [.pointer (some ⟨tb, 0, none⟩), .int .u32 key] [Z.cl tb 52 [.pointer (some ⟨ab, 0, none⟩), .int .i32 r], Arena ab A] (.bool (decide ((A.foldA r key key).c = 1))) [Z.cl tb 52 [.pointer (some ⟨ab, 0, none⟩), .int .i32 r], Arena ab (A.killT r key key)] := by
  refine Z.Fn.fnD ?_
  refine Z.fn_enter (n := 11) Try.func13 rfl (by rfl) (by rfl) (fun Fr => ?_)
  refine Z.j_app (by repeat (first | exact Z.App.nil | apply Z.App.cons)) ?_
  refine Z.j_seq ?_
  refine Z.j_region ?_
  refine Z.s_val (Z.pv_assign rfl) ?_
  refine Z.j_nil ?_
  refine Z.j_then ?_
  refine Z.j_seq ?_
  refine Z.j_region ?_
  refine Z.s_val (Z.pv_move rfl) ?_
  refine Z.s_val (Z.pv_move rfl) ?_
  refine Z.s_val (Z.pv_move rfl) ?_
  refine Z.s_val (Z.pv_build rfl Try.zeroValue44 pl44 rfl) ?_
  refine Z.s_callD rfl rfl rfl isFn12 (by repeat (first | with_reducible exact Z.Takes.nil | (apply Z.Takes.cons; (repeat (first | with_reducible exact Z.Take.here | apply Z.Take.there))))) (by repeat (first | exact Z.App.nil | apply Z.App.cons)) (Kill_spec _ _ _ _ _ _ _ (by assumption) (by omega)) ?_
  refine Z.s_val (Z.pv_eql rfl rfl) ?_
  refine Z.s_val (Z.pv_assign rfl) ?_
  refine Z.j_nil ?_
  refine Z.j_then ?_
  refine Z.j_ret ?_
  refine Z.j_done_ret (Z.rv1 (Z.rv_tmp (t := 4) rfl)) ?_
  exact Z.post_of ⟨rfl, rfl⟩ (by repeat (first | with_reducible exact Z.Takes.nil | (apply Z.Takes.cons; (repeat (first | with_reducible exact Z.Take.here | apply Z.Take.there))))) (by repeat (first | with_reducible exact Z.Drop.nil | apply Z.Drop.cons))

set_option maxHeartbeats 4000000 in
set_option maxRecDepth 100000 in
theorem Get_spec (w0 : World) (tb ab : Nat) (r : Int) (A : Ar) (key : Int) (hA : A.ok) (hr : 0 ≤ r ∧ r ≤ 4194304) : Z.FnD Try.prog w0 8 [.pointer (some ⟨tb, 0, none⟩), .int .u32 key] [Z.cl tb 52 [.pointer (some ⟨ab, 0, none⟩), .int .i32 r], Arena ab A] (.tuple #[.int .i64 (A.foldA r key key).s, .bool (decide ((A.foldA r key key).c = 1))]) [Z.cl tb 52 [.pointer (some ⟨ab, 0, none⟩), .int .i32 r], Arena ab (A.foldT r key key)] := by
  refine Z.Fn.fnD ?_
  refine Z.fn_enter (n := 17) Try.func8 rfl (by rfl) (by rfl) (fun Fr => ?_)
  refine Z.j_app (by repeat (first | exact Z.App.nil | apply Z.App.cons)) ?_
  refine Z.j_seq ?_
  refine Z.j_region ?_
  refine Z.s_val (Z.pv_assign rfl) ?_
  refine Z.s_val (Z.pv_assign rfl) ?_
  refine Z.j_nil ?_
  refine Z.j_then ?_
  refine Z.j_seq ?_
  refine Z.j_region ?_
  refine Z.s_val (Z.pv_move rfl) ?_
  refine Z.s_val (Z.pv_move rfl) ?_
  refine Z.s_val (Z.pv_move rfl) ?_
  refine Z.s_val (Z.pv_build rfl Try.zeroValue44 pl44 rfl) ?_
  refine Z.s_callD rfl rfl rfl isFn11 (by repeat (first | with_reducible exact Z.Takes.nil | (apply Z.Takes.cons; (repeat (first | with_reducible exact Z.Take.here | apply Z.Take.there))))) (by repeat (first | exact Z.App.nil | apply Z.App.cons)) (Fold_spec _ _ _ _ _ _ _ (by assumption) (by omega)) ?_
  refine Z.s_alloc Try.zeroValue41 (fun b6 => ?_)
  refine Z.s_storeA rfl rfl Try.sizeOf41 rfl (by repeat (first | with_reducible exact Z.Upd.here | apply Z.Upd.there)) (by rfl) ?_
  refine Z.j_nil ?_
  refine Z.j_then ?_
  refine Z.j_seq ?_
  refine Z.j_draw (vals := [_, _, _, _, _, _, _]) 7 (by kernel_rfl) (by kernel_rfl) rfl (by rfl) (Z.heads_cons (Z.hq_val (Z.pv_fieldAddr (o' := 1) (by rfl) Try.underlying41 (by rfl) (by exact Try.sizeOf2) (by rfl))) (Z.heads_cons (Z.hq_val (Z.pv_load1 (by rfl) (by repeat (first | with_reducible exact Z.Take.here | apply Z.Take.there)) Try.isAgg2 (by rfl))) (Z.heads_cons (Z.hq_val (Z.pv_fieldAddr (o' := 0) (by rfl) Try.underlying41 (by rfl) (by exact Try.sizeOf3) (by rfl))) (Z.heads_cons (Z.hq_val (Z.pv_load1 (by rfl) (by repeat (first | with_reducible exact Z.Take.here | apply Z.Take.there)) Try.isAgg3 (by rfl))) (Z.heads_cons (Z.hq_val (Z.pv_eql (by rfl) (by rfl))) (Z.heads_cons (Z.hq_val (Z.pv_assign (by rfl))) (Z.heads_cons (Z.hq_val (Z.pv_assign (by rfl))) Z.heads_nil))))))) ?_
  refine Z.j_nil ?_
  refine Z.j_then ?_
  refine Z.j_ret ?_
  refine Z.j_done_ret (Z.rv2 (Z.rv_tmp (t := 4) rfl) (Z.rv_tmp (t := 5) rfl)) ?_
  exact Z.post_of ⟨rfl, rfl⟩ (by repeat (first | with_reducible exact Z.Takes.nil | (apply Z.Takes.cons; (repeat (first | with_reducible exact Z.Take.here | apply Z.Take.there))))) (by repeat (first | with_reducible exact Z.Drop.nil | apply Z.Drop.cons))

end Go.Proofs.Ytggndcaehjdklaa
