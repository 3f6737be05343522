/- Token: small facts for the laws. -/
import Derived.Test.YtjilnmjjehkidaaT1
namespace Go.Proofs.Ytjilnmjjehkidaa
open Go Go.RowKit
theorem and_bd (x c : Int) (h0 : 0 ≤ c) (h1 : c < 9223372036854775808) : 0 ≤ Z.bitsOf .and .i64 x c ∧ Z.bitsOf .and .i64 x c ≤ c := by
  have h : (BitVec.ofInt 64 x &&& BitVec.ofInt 64 c).toNat ≤ c.toNat := by
    rw [BitVec.toNat_and]
    refine Nat.le_trans Nat.and_le_right ?_
    rw [BitVec.toNat_ofInt]
    omega
  have e : Z.bitsOf .and .i64 x c = IntKind.i64.wrap ((BitVec.ofInt 64 x &&& BitVec.ofInt 64 c).toNat : Int) := rfl
  rw [e, IntWalk.i64_in _ (by omega)]
  omega
theorem gone_le {since now span : Int} (h0 : 0 ≤ now - since) (h1 : now - since ≤ 9223372036854775807) : gone since now span = decide (span ≤ now - since) := by
  unfold gone
  rw [IntWalk.i64_in _ (by omega)]
  have e1 : decide (now < since) = false := decide_eq_false (by omega)
  have e2 : decide (now - since < 0) = false := decide_eq_false (by omega)
  rw [e1, e2]; rfl
theorem ended_no {i a : Int} {s : Sess} {now : Int} (h1 : 0 ≤ now - s.l) (h2 : now - s.l < i) (h3 : 0 ≤ now - s.b) (h4 : now - s.b < a) (hi : i ≤ 9223372036854775807) (ha : a ≤ 9223372036854775807) : ended i a s now = false := by
  unfold ended
  rw [gone_le h1 (by omega), gone_le h3 (by omega), decide_eq_false (by omega), decide_eq_false (by omega)]; rfl
theorem ended_l {i a : Int} {s : Sess} {now : Int} (h1 : 0 ≤ now - s.l) (h2 : i ≤ now - s.l) (h3 : now - s.l ≤ 9223372036854775807) : ended i a s now = true := by
  unfold ended
  rw [gone_le h1 h3, decide_eq_true h2]; rfl
theorem ended_b {i a : Int} {s : Sess} {now : Int} (h1 : 0 ≤ now - s.b) (h2 : a ≤ now - s.b) (h3 : now - s.b ≤ 9223372036854775807) : ended i a s now = true := by
  unfold ended
  rw [gone_le (since := s.b) h1 h3, decide_eq_true h2, Bool.or_true]
/-! ### TokenUses -/
abbrev U0 (n i a : Int) : Tab := ⟨[], n, i, a⟩
abbrev UL (i a last : Int) : Tab := ⟨[(5, ⟨1, 0, last⟩), (6, ⟨2, 0, 0⟩)], 2, i, a⟩
abbrev UU (i a last : Int) : Tab := ⟨[(7, ⟨3, 10, last⟩)], 1, i, a⟩
theorem U0_open {n i a p d now : Int} (hn : 0 < n) (hd : d ≠ 0) : (U0 n i a).openE d now = 0 ∧ (U0 n i a).openT p d now = ⟨[(d, ⟨p, now, now⟩)], n, i, a⟩ := by
  have h := openT_0 (t := U0 n i a) (p := p) (d := d) (now := now) hd rfl (by simp [Tab.sweep, U0]; omega)
  exact ⟨h.1, h.2⟩
theorem U1_open {i a : Int} (hi : 2 ≤ i ∧ i ≤ 100) (ha : 2 ≤ a ∧ a ≤ 100) : (⟨[(5, ⟨1, 0, 0⟩)], 2, i, a⟩ : Tab).openE 6 0 = 0 ∧ (⟨[(5, ⟨1, 0, 0⟩)], 2, i, a⟩ : Tab).openT 2 6 0 = UL i a 0 := by
  have he : ended i a ⟨1, 0, 0⟩ 0 = false := ended_no (by simp) (by simp; omega) (by simp) (by simp; omega) (by omega) (by omega)
  have hs : ((⟨[(5, ⟨1, 0, 0⟩)], 2, i, a⟩ : Tab).sweep 0).m = [(5, ⟨1, 0, 0⟩)] := by
    simp [Tab.sweep, Tab.ended, he]
  have h := openT_0 (t := ⟨[(5, ⟨1, 0, 0⟩)], 2, i, a⟩) (p := 2) (d := 6) (now := 0) (by decide) (by rw [hs]; rfl) (by rw [hs]; simp)
  refine ⟨h.1, h.2.trans ?_⟩
  rw [hs]; rfl
theorem UL_use {i a last now : Int} (ha : a ≤ 100) (hi : i ≤ 100) (h1 : 0 ≤ last) (h2 : last ≤ now) (h3 : now - last < i) (h4 : now < a) : (UL i a last).useP 5 now = 1 ∧ (UL i a last).useE 5 now = 0 ∧ (UL i a last).useT 5 now = UL i a now := by
  have he : ended i a ⟨1, 0, last⟩ now = false := ended_no (by simp; omega) (by simp; omega) (by simp; omega) (by simp; omega) (by omega) (by omega)
  have hh : (UL i a last).has 5 now = some ⟨1, 0, last⟩ := by simp [Tab.has, UL, Z.mget, Tab.ended, he]
  obtain ⟨u1, u2, u3⟩ := use_some hh
  exact ⟨u2, u3, u1.trans (by simp [UL, Z.mput])⟩
theorem UL_end {i a last : Int} (ha : 0 ≤ a ∧ a ≤ 100) : (UL i a last).useP 5 a = 0 ∧ (UL i a last).useE 5 a = 41 := by
  have he : ended i a ⟨1, 0, last⟩ a = true := ended_b (by simp; omega) (by simp) (by simp; omega)
  have hh : (UL i a last).has 5 a = none := by simp [Tab.has, UL, Z.mget, Tab.ended, he]
  obtain ⟨u1, u2, u3⟩ := use_none hh
  exact ⟨u2, u3⟩
theorem UU_use {i a now : Int} (h1 : 10 ≤ now) (hi : i ≤ 100) (ha : a ≤ 100) (h3 : now - 10 < i) (h4 : now - 10 < a) : (UU i a 10).useP 7 now = 3 ∧ (UU i a 10).useE 7 now = 0 := by
  have he : ended i a ⟨3, 10, 10⟩ now = false := ended_no (by simp; omega) (by simp; omega) (by simp; omega) (by simp; omega) (by omega) (by omega)
  have hh : (UU i a 10).has 7 now = some ⟨3, 10, 10⟩ := by simp [Tab.has, UU, Z.mget, Tab.ended, he]
  obtain ⟨u1, u2, u3⟩ := use_some hh
  exact ⟨u2, u3⟩
theorem UU_end {i a now : Int} (h1 : 10 ≤ now) (hn : now ≤ 1000) (h3 : i ≤ now - 10 ∨ a ≤ now - 10) : (UU i a 10).useP 7 now = 0 ∧ (UU i a 10).useE 7 now = 41 ∧ (UU i a 10).useT 7 now = U0 1 i a := by
  have he : ended i a ⟨3, 10, 10⟩ now = true := by
    rcases h3 with h | h
    · exact ended_l (by simp; omega) (by simp; omega) (by simp; omega)
    · exact ended_b (by simp; omega) (by simp; omega) (by simp; omega)
  have hh : (UU i a 10).has 7 now = none := by simp [Tab.has, UU, Z.mget, Tab.ended, he]
  obtain ⟨u1, u2, u3⟩ := use_none hh
  exact ⟨u2, u3, u1.trans (by simp [UU, Z.mdel, U0])⟩
end Go.Proofs.Ytjilnmjjehkidaa
namespace Go.Proofs.Ytjilnmjjehkidaa
open Go Go.RowKit
theorem span_ok {n : Int} (h : 1 ≤ n ∧ n ≤ 1125899906842624) : spanB n = true := by simp [spanB, h.1, h.2]
theorem U0_ok {n i a : Int} : (U0 n i a).ok := ⟨List.nodup_nil, by simp [U0]⟩
theorem U1_ok {i a : Int} : (⟨[(5, ⟨1, 0, 0⟩)], 2, i, a⟩ : Tab).ok := ⟨by simp [keys], by simp⟩
end Go.Proofs.Ytjilnmjjehkidaa
namespace Go.Proofs.Ytjilnmjjehkidaa
open Go Go.RowKit
theorem getmap {ik : IntKind} {l : List Int} {i : Nat} (h : i < l.length) : (l.map (Value.int ik))[i]? = some (.int ik (l.getD i 0)) := by
  simp [List.getElem?_eq_getElem h, List.getD]
end Go.Proofs.Ytjilnmjjehkidaa
