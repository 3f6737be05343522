/- Token: TokenSweeps in plain words. -/
import Derived.Test.YtjilnmjjehkidaaT2
import Derived.Test.YtjilnmjjehkidaaZm
namespace Go.Proofs.Ytjilnmjjehkidaa
open Go Go.RowKit
def msk (x c : Int) : Int := Z.bitsOf .and .i64 x c
def mx (a b : Int) : Int := if a < b then b else a
theorem mx_bd (a b : Int) : a ≤ mx a b ∧ b ≤ mx a b ∧ (mx a b = a ∨ mx a b = b) := by unfold mx; split <;> omega
def lastN (ts : List Int) : Nat → Int
  | 0 => 0
  | k + 1 => mx (lastN ts k) (msk (ts.getD k 0) 255)
def tabN (ts : List Int) (i : Int) : Nat → Tab
  | 0 => ⟨[], 8, i, 1000⟩
  | k + 1 => (tabN ts i k).openT k (k + 1) (lastN ts (k + 1))
theorem lastN_bd (ts : List Int) : ∀ k, 0 ≤ lastN ts k ∧ lastN ts k ≤ 255
  | 0 => by simp [lastN]
  | k + 1 => by
    have h1 := lastN_bd ts k
    have h2 := and_bd (ts.getD k 0) 255 (by decide) (by decide)
    have h3 := mx_bd (lastN ts k) (msk (ts.getD k 0) 255)
    unfold msk at h3
    simp only [lastN, msk]; omega
theorem lastN_le (ts : List Int) (k : Nat) : lastN ts k ≤ lastN ts (k + 1) := by
  exact (mx_bd _ _).1
structure TI (t : Tab) (i : Int) (k : Nat) (L : Int) : Prop where
  idle : t.idle = i
  abs : t.abs = 1000
  nd : (Z.ks t.m).Nodup
  kb : ∀ q ∈ Z.ks t.m, 1 ≤ q ∧ q ≤ k
  sb : ∀ q s, (q, s) ∈ t.m → 0 ≤ s.l ∧ s.l ≤ L ∧ 0 ≤ s.b ∧ s.b ≤ L
  len : t.m.length ≤ k
theorem TI.sweep {t : Tab} {i : Int} {k : Nat} {L now : Int} (h : TI t i k L) : TI (t.sweep now) i k L :=
  ⟨h.idle, h.abs, Z.nodup_filter h.nd, fun q hq => h.kb q (by
      obtain ⟨p, hp, e⟩ := List.mem_map.1 hq
      exact List.mem_map.2 ⟨p, (List.mem_filter.1 hp).1, e⟩), fun q s hs => h.sb q s (List.mem_filter.1 hs).1, Nat.le_trans (List.length_filter_le _ _) h.len⟩
theorem mem_mput {m : M} {k q : Int} {v s : Sess} (h : (q, s) ∈ Z.mput k v m) : (q, s) = (k, v) ∨ (q, s) ∈ m := by
  induction m with
  | nil => simp [Z.mput] at h; left; simp [h]
  | cons p m ih =>
    obtain ⟨k', v'⟩ := p
    simp only [Z.mput] at h
    split at h
    · rcases List.mem_cons.1 h with e | e
      · exact .inl e
      · exact .inr (List.mem_cons_of_mem _ e)
    · rcases List.mem_cons.1 h with e | e
      · right; rw [e]; simp
      · rcases ih e with h1 | h1
        · exact .inl h1
        · exact .inr (List.mem_cons_of_mem _ h1)
theorem TI.mono {t : Tab} {i : Int} {k : Nat} {L L' : Int} (h : TI t i k L) (hL : L ≤ L') : TI t i (k + 1) L' :=
  ⟨h.idle, h.abs, h.nd, fun q hq => by have := h.kb q hq; omega, fun q s hs => by have := h.sb q s hs; omega, by have := h.len; omega⟩
theorem TI.open {t : Tab} {i : Int} {k : Nat} {L L' p : Int} (h : TI t i k L) (hL : L ≤ L') (h0 : 0 ≤ L') : TI (t.openT p (k + 1) L') i (k + 1) L' := by
  have hs := (h.sweep (now := L')).mono hL
  unfold Tab.openT
  split
  · refine ⟨h.idle, h.abs, Z.nodup_mput hs.nd, fun q hq => ?_, fun q s hq => ?_, ?_⟩
    · rw [Z.ks_mput] at hq
      split at hq
      · exact hs.kb q hq
      · rcases List.mem_append.1 hq with h1 | h1
        · exact hs.kb q h1
        · simp at h1; subst h1; omega
    · rcases mem_mput hq with e | e
      · cases e; exact ⟨h0, Int.le_refl _, h0, Int.le_refl _⟩
      · exact hs.sb q s e
    · have := (h.sweep (now := L')).len
      show (Z.mput _ _ _).length ≤ k + 1
      rw [Z.len_mput]; split <;> omega
  · exact hs
theorem tabN_TI (ts : List Int) (i : Int) : ∀ k, TI (tabN ts i k) i k (lastN ts k)
  | 0 => ⟨rfl, rfl, List.nodup_nil, by simp [tabN], by simp [tabN], by simp [tabN]⟩
  | k + 1 => (tabN_TI ts i k).open (lastN_le ts k) (lastN_bd ts (k + 1)).1
theorem TI.ok {t : Tab} {i : Int} {k : Nat} {L : Int} (h : TI t i k L) (hk : k ≤ 1000) : t.ok := ⟨h.nd, by have := h.len; omega⟩

theorem has_iff {t : Tab} {q now : Int} (hn : (Z.ks t.m).Nodup) : t.has q now = Z.mget q (t.sweep now).m := by
  unfold Tab.has Tab.sweep
  rw [Z.mget_filter hn]
  cases Z.mget q t.m with
  | none => rfl
  | some s => cases h : t.ended s now <;> simp [h]
theorem sweep_idem {t : Tab} {now : Int} : (t.sweep now).sweep now = t.sweep now := by
  unfold Tab.sweep
  simp only [List.filter_filter, Tab.mk.injEq, and_true]
  exact List.filter_congr fun p _ => by simp [Tab.ended]
theorem sweep_none {t : Tab} {now : Int} (h : ∀ q s, (q, s) ∈ t.m → t.ended s now = false) : t.sweep now = t := by
  obtain ⟨m, a, b, c⟩ := t
  unfold Tab.sweep
  congr 1
  exact List.filter_eq_self.2 fun p hp => by have := h p.1 p.2 hp; simp [this]
theorem gone_0 {l span : Int} (h0 : 0 ≤ l) (h1 : l ≤ 1000) (hs : 1 ≤ span) : gone l 0 span = false := by
  unfold gone
  rw [IntWalk.i64_in _ (by omega)]
  by_cases h : l = 0
  · subst h; simp; omega
  · have e1 : decide (0 < l) = true := decide_eq_true (by omega)
    have e2 : decide (0 - l < 0) = true := decide_eq_true (by omega)
    rw [e1, e2]
    simp; omega
theorem TI.sweep0 {t : Tab} {i : Int} {k : Nat} {L : Int} (h : TI t i k L) (hL : L ≤ 1000) (hi : 1 ≤ i) : t.sweep 0 = t := sweep_none fun q s hs => by
  obtain ⟨h1, h2, h3, h4⟩ := h.sb q s hs
  unfold Tab.ended ended
  rw [h.idle, h.abs, gone_0 h1 (by omega) hi, gone_0 h3 (by omega) (by decide)]; rfl

/-! ### uses one behind the other -/
def useN (t : Tab) (now : Int) : Nat → Tab
  | 0 => t
  | k + 1 => (useN t now k).useT (k + 1) now
theorem useT_parts {t : Tab} {q now : Int} (hn : (Z.ks t.m).Nodup) : (t.useT q now).idle = t.idle ∧ (t.useT q now).abs = t.abs ∧ (Z.ks (t.useT q now).m).Nodup ∧ (∀ q', q' ≠ q → Z.mget q' (t.useT q now).m = Z.mget q' t.m) := by
  unfold Tab.useT
  split
  · exact ⟨rfl, rfl, Z.nodup_mdel hn, fun q' h => by show Z.mget q' (Z.mdel q t.m) = _; rw [Z.mget_mdel hn, if_neg h]⟩
  · exact ⟨rfl, rfl, Z.nodup_mput hn, fun q' h => by show Z.mget q' (Z.mput q _ t.m) = _; rw [Z.mget_mput, if_neg h]⟩
theorem useN_parts {t : Tab} {now : Int} (hn : (Z.ks t.m).Nodup) : ∀ k : Nat, (useN t now k).idle = t.idle ∧ (useN t now k).abs = t.abs ∧ (Z.ks (useN t now k).m).Nodup ∧ (∀ q' : Int, (k : Int) < q' → Z.mget q' (useN t now k).m = Z.mget q' t.m)
  | 0 => ⟨rfl, rfl, hn, fun _ _ => rfl⟩
  | k + 1 => by
    obtain ⟨h1, h2, h3, h4⟩ := useN_parts (now := now) hn k
    obtain ⟨g1, g2, g3, g4⟩ := useT_parts (q := (k + 1 : Int)) (now := now) h3
    exact ⟨g1.trans h1, g2.trans h2, g3, fun q' hq => (g4 q' (by omega)).trans (h4 q' (by omega))⟩
theorem useE_of {t t' : Tab} {q now : Int} (h1 : t'.idle = t.idle) (h2 : t'.abs = t.abs) (h3 : Z.mget q t'.m = Z.mget q t.m) : t'.useE q now = t.useE q now := by
  unfold Tab.useE Tab.has Tab.ended
  rw [h1, h2, h3]
theorem useN_E {t : Tab} {now : Int} (hn : (Z.ks t.m).Nodup) (k : Nat) : (useN t now k).useE (k + 1) now = t.useE (k + 1) now := by
  obtain ⟨h1, h2, _, h4⟩ := useN_parts (now := now) hn k
  exact useE_of h1 h2 (h4 _ (by omega))
theorem sweep_E {t : Tab} {q now : Int} (hn : (Z.ks t.m).Nodup) : (t.sweep now).useE q now = t.useE q now := by
  unfold Tab.useE
  rw [has_iff hn, has_iff (t := t.sweep now) (Z.nodup_filter hn), sweep_idem]
theorem useE_iff {t : Tab} {q now : Int} (hn : (Z.ks t.m).Nodup) : t.useE q now = 0 ↔ q ∈ Z.ks (t.sweep now).m := by
  unfold Tab.useE
  rw [has_iff hn, ← Z.mget_isSome]
  cases Z.mget q (t.sweep now).m <;> simp
theorem useE_01 {t : Tab} {q now : Int} : t.useE q now = 0 ∨ t.useE q now = 41 := by
  unfold Tab.useE; split <;> simp
def cntU (t : Tab) (now : Int) : Nat → Int
  | 0 => 0
  | k + 1 => if t.useE (k + 1) now = 0 then cntU t now k + 1 else cntU t now k
theorem cntU_bd (t : Tab) (now : Int) : ∀ k : Nat, 0 ≤ cntU t now k ∧ cntU t now k ≤ k
  | 0 => by simp [cntU]
  | k + 1 => by have := cntU_bd t now k; simp only [cntU]; split <;> omega
theorem cntU_eq {t : Tab} {now : Int} : ∀ k : Nat, cntU t now k = (((List.range k).map fun j : Nat => ((j : Int) + 1)).filter fun q => decide (t.useE q now = 0)).length
  | 0 => rfl
  | k + 1 => by
    simp only [cntU, cntU_eq k, List.range_succ, List.map_append, List.map_cons, List.map_nil, List.filter_append, List.length_append]
    split
    · rename_i h; simp [h]
    · rename_i h; simp [h]
theorem cnt_sweep {t : Tab} {now i L : Int} {n : Nat} (h : TI t i n L) : cntU t now n = (t.sweep now).m.length := by
  rw [cntU_eq, ← Z.len_ks (m := (t.sweep now).m)]
  congr 1
  refine ((List.perm_ext_iff_of_nodup ?_ (Z.nodup_filter h.nd)).2 fun q => ?_).length_eq
  · refine List.Pairwise.filter _ ?_
    rw [List.pairwise_map]
    exact (List.nodup_range (n := n)).imp fun hab => by omega
  · rw [List.mem_filter, decide_eq_true_eq, useE_iff h.nd]
    constructor
    · exact fun h => h.2
    · intro hq
      refine ⟨?_, hq⟩
      have := (h.sweep (now := now)).kb q hq
      exact List.mem_map.2 ⟨(q - 1).toNat, by simp; omega, by omega⟩
end Go.Proofs.Ytjilnmjjehkidaa
