/- Rows: some of the rows. -/
import Derived.Test.YtleofndjeekalaaC7
namespace Go.Proofs.Ytleofndjeekalaa
open Go Go.RowKit
theorem and_bd (x c : Int) (h0 : 0 ≤ c) (h1 : c < 9223372036854775808) : 0 ≤ Z.bitsOf .and .i64 x c ∧ Z.bitsOf .and .i64 x c ≤ c := by
  have h : (BitVec.ofInt 64 x &&& BitVec.ofInt 64 c).toNat ≤ c.toNat := by
    rw [BitVec.toNat_and]
    refine Nat.le_trans Nat.and_le_right ?_
    rw [BitVec.toNat_ofInt]
    omega
  have e : Z.bitsOf .and .i64 x c = IntKind.i64.wrap ((BitVec.ofInt 64 x &&& BitVec.ofInt 64 c).toNat : Int) := rfl
  rw [e, IntWalk.i64_in _ (by omega)]
  omega
theorem ss_len (ver : VM) {m : Int} (h0 : 0 ≤ m) : ((ssR ver m).length : Int) = if (ver.length : Int) < m then (ver.length : Int) else m := by
  unfold ssR
  by_cases h : m ≤ 0
  · rw [if_pos h]
    have e : m = 0 := by omega
    subst e
    rw [if_neg (by omega)]; rfl
  · rw [if_neg h, List.length_take, pairsR_len]
    split <;> omega
end Go.Proofs.Ytleofndjeekalaa
