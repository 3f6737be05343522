/- Rows: cells as keys. -/
import Derived.Test.YtleofndjeekalaaZa
import Derived.Test.YtleofndjeekalaaZv
import Derived.Test.YtleofndjeekalaaZr
import Derived.IntWalk
import Derived.Test.YtleofndjeekalaaRows
namespace Go.Proofs.Ytleofndjeekalaa
open Go Go.RowKit Go.Instr

structure Cell where
  l : Int
  k : Int
  deriving DecidableEq
def Cell.e (c : Cell) : Value := .agg #[.int .i64 c.l, .int .u32 c.k]
theorem cell_eqf (a b : Cell) (d : Nat) (w : World) : (Op.eqFields (d + 1) #[Value.int .i64 a.l, .int .u32 a.k] #[Value.int .i64 b.l, .int .u32 b.k] [{ name := "Label", type := 3, offset := 0, embedded := false, tag := "", pkgPath := "", byteOffset := 0 }, { name := "Key", type := 34, offset := 1, embedded := false, tag := "", pkgPath := "", byteOffset := 8 }]).run Try.prog w = .ok (decide (a = b)) w := by
  have e : (a = b) ↔ (a.l = b.l ∧ a.k = b.k) := by cases a; cases b; simp
  simp [Op.eqFields, part, Try.isAgg3, Try.isAgg34, Result.andThen, run_equalIn_int _ d _ _ _ _ _ Try.underlying3, run_equalIn_int _ d _ _ _ _ _ Try.underlying34, e]
  (repeat' split) <;> simp_all
theorem cell_eq (a b : Cell) (w : World) : (Op.equal 36 a.e b.e).run Try.prog w = .ok (decide (a = b)) w := by
  have hf : Try.prog.fieldsOf 36 = #[{ name := "Label", type := 3, offset := 0, embedded := false, tag := "", pkgPath := "", byteOffset := 0 }, { name := "Key", type := 34, offset := 1, embedded := false, tag := "", pkgPath := "", byteOffset := 8 }] := by simp [Program.fieldsOf, Try.underlying36]
  have h1 := run_equalIn_agg (P := Try.prog) w 9999 36 #[Value.int .i64 a.l, .int .u32 a.k] #[Value.int .i64 b.l, .int .u32 b.k] (by rw [hf]; exact Try.underlying36) Try.stoodInHeld36
  rw [hf] at h1
  exact h1.trans (cell_eqf a b 9998 w)
theorem check_int {t : TypeId} {ik : IntKind} (h : Try.prog.underlying t = some (.int ik)) (e : Bool) (n : Nat) (v : Value) (w : World) : (checkKey e (n + 1) t v).run Try.prog w = .ok () w := by
  unfold checkKey
  simp [run_underlying h, Result.andThen]
theorem check_struct (e : Bool) (n : Nat) (a : Cell) (w : World) : (checkKey e (n + 1 + 1) 36 a.e).run Try.prog w = .ok () w := by
  rw [checkKey]
  unfold Cell.e
  simp [run_underlying Try.underlying36, Result.andThen, part, Try.isAgg3, Try.isAgg34, check_int Try.underlying3, check_int Try.underlying34]
theorem cell_check (e : Bool) (a : Cell) (w : World) : (checkKey e 10000 36 a.e).run Try.prog w = .ok () w := check_struct e 9998 a w
theorem kCell : Z.KeyOK Try.prog 36 Cell.e := Z.keyOK_struct Try.underlying36 cell_check cell_eq (fun k => by simp [sameBits, Cell.e])
end Go.Proofs.Ytleofndjeekalaa
