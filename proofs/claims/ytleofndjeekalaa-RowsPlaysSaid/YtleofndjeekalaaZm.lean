/- Plain laws of maps as lists of pairs. -/
import Derived.Test.YtleofndjeekalaaZb
set_option linter.unusedSectionVars false
namespace Go.Z
section
variable {κ υ : Type} [DecidableEq κ]
abbrev ks (m : List (κ × υ)) : List κ := m.map (·.1)
theorem mget_none {k : κ} {m : List (κ × υ)} : mget k m = none ↔ k ∉ ks m := by
  induction m with
  | nil => simp [mget]
  | cons p m ih =>
    obtain ⟨k', v'⟩ := p
    simp only [mget, ks, List.map_cons, List.mem_cons, not_or]
    by_cases e : k = k'
    · simp [e]
    · simp [e]; exact ih.trans (by simp)
theorem mget_isSome {k : κ} {m : List (κ × υ)} : (mget k m).isSome = true ↔ k ∈ ks m := by
  rw [← Decidable.not_iff_not, ← mget_none]
  cases mget k m <;> simp
theorem mget_mem {k : κ} {v : υ} {m : List (κ × υ)} (h : mget k m = some v) : (k, v) ∈ m := by
  induction m with
  | nil => cases h
  | cons p m ih =>
    obtain ⟨k', v'⟩ := p
    simp only [mget] at h
    split at h
    · rename_i e; cases h; subst e; simp
    · exact List.mem_cons_of_mem _ (ih h)
theorem mget_of_mem {k : κ} {v : υ} {m : List (κ × υ)} (hn : (ks m).Nodup) (h : (k, v) ∈ m) : mget k m = some v := by
  induction m with
  | nil => cases h
  | cons p m ih =>
    obtain ⟨k', v'⟩ := p
    simp only [ks, List.map_cons, List.nodup_cons] at hn
    simp only [mget]
    rcases List.mem_cons.1 h with e | e
    · cases e; simp
    · have : k ≠ k' := fun e' => hn.1 (List.mem_map.2 ⟨_, e, e'⟩)
      rw [if_neg this]; exact ih hn.2 e
theorem mget_mput {k k' : κ} {v : υ} {m : List (κ × υ)} : mget k' (mput k v m) = if k' = k then some v else mget k' m := by
  induction m with
  | nil => simp only [mput, mget]
  | cons p m ih =>
    obtain ⟨q, w⟩ := p
    simp only [mput]
    split
    · rename_i e; subst e; simp only [mget]; split <;> rfl
    · rename_i e
      simp only [mget, ih]
      by_cases e1 : k' = q
      · have : k' ≠ k := fun h => e (h.symm.trans e1)
        simp [e1]; intro h; exact absurd (h.symm) (fun h => e h)
      · simp [e1]
theorem ks_mput {k : κ} {v : υ} {m : List (κ × υ)} : ks (mput k v m) = if k ∈ ks m then ks m else ks m ++ [k] := by
  induction m with
  | nil => simp [mput]
  | cons p m ih =>
    obtain ⟨q, w⟩ := p
    simp only [mput]
    split
    · rename_i e; subst e; simp
    · rename_i e
      simp only [ks, List.map_cons] at ih ⊢
      rw [ih]
      by_cases h : k ∈ m.map (·.1)
      · rw [if_pos h, if_pos (by simp only [List.mem_cons]; exact .inr h)]
      · rw [if_neg h, if_neg (by simp only [List.mem_cons, not_or]; exact ⟨e, h⟩)]; simp
theorem nodup_mput {k : κ} {v : υ} {m : List (κ × υ)} (h : (ks m).Nodup) : (ks (mput k v m)).Nodup := by
  rw [ks_mput]
  split
  · exact h
  · rename_i hk
    rw [List.nodup_append]
    refine ⟨h, by simp, fun a ha b hb => ?_⟩
    simp only [List.mem_singleton] at hb
    subst hb; exact fun e => hk (e ▸ ha)
theorem len_ks {m : List (κ × υ)} : (ks m).length = m.length := by simp
theorem len_mput {k : κ} {v : υ} {m : List (κ × υ)} : (mput k v m).length = if k ∈ ks m then m.length else m.length + 1 := by
  rw [← len_ks, ks_mput]; split <;> simp
theorem sub_mdel {k : κ} {m : List (κ × υ)} : (mdel k m).Sublist m := by
  induction m with
  | nil => exact .slnil
  | cons p m ih =>
    obtain ⟨q, w⟩ := p
    simp only [mdel]
    split
    · exact List.sublist_cons_self _ _
    · exact ih.cons_cons _
theorem nodup_mdel {k : κ} {m : List (κ × υ)} (h : (ks m).Nodup) : (ks (mdel k m)).Nodup := h.sublist (sub_mdel.map _)
theorem mdel_eq {k : κ} {m : List (κ × υ)} (h : (ks m).Nodup) : mdel k m = m.filter fun p => p.1 != k := by
  induction m with
  | nil => rfl
  | cons p m ih =>
    obtain ⟨q, w⟩ := p
    simp only [ks, List.map_cons, List.nodup_cons] at h
    simp only [mdel]
    by_cases e : k = q
    · subst e
      have : m.filter (fun p => p.1 != k) = m := List.filter_eq_self.2 fun p hp => by
        have : p.1 ≠ k := fun e => h.1 (List.mem_map.2 ⟨p, hp, e⟩)
        simpa using this
      simp [this]
    · have : q ≠ k := fun h => e h.symm
      rw [if_neg e, ih h.2]; simp [this]
theorem mget_filter {f : κ × υ → Bool} {k : κ} {m : List (κ × υ)} (h : (ks m).Nodup) : mget k (m.filter f) = (mget k m).bind fun v => if f (k, v) = true then some v else none := by
  induction m with
  | nil => rfl
  | cons p m ih =>
    obtain ⟨q, w⟩ := p
    simp only [ks, List.map_cons, List.nodup_cons] at h
    simp only [mget]
    by_cases e : k = q
    · subst e
      rw [if_pos rfl]
      by_cases hf : f (k, w) = true
      · simp [hf, mget]
      · have hn : mget k (m.filter f) = none := mget_none.2 fun hm => by
          obtain ⟨p, hp, e⟩ := List.mem_map.1 hm
          exact h.1 (List.mem_map.2 ⟨p, (List.mem_filter.1 hp).1, e⟩)
        simp [hf, hn]
    · rw [if_neg e, ← ih h.2]
      by_cases hf : f (q, w) = true
      · simp [hf, mget, e]
      · simp [hf]
theorem mget_mdel {k k' : κ} {m : List (κ × υ)} (h : (ks m).Nodup) : mget k' (mdel k m) = if k' = k then none else mget k' m := by
  rw [mdel_eq h, mget_filter h]
  by_cases e : k' = k
  · subst e; cases mget k' m <;> simp
  · cases mget k' m <;> simp [e]
theorem ks_mdel {k : κ} {m : List (κ × υ)} (h : (ks m).Nodup) : ks (mdel k m) = (ks m).filter fun x => x != k := by
  rw [mdel_eq h]
  simp only [ks, List.filter_map]
  rfl
theorem len_mdel {k : κ} {m : List (κ × υ)} : (mdel k m).length = if k ∈ ks m then m.length - 1 else m.length := by
  induction m with
  | nil => simp [mdel]
  | cons p m ih =>
    obtain ⟨q, w⟩ := p
    simp only [mdel]
    by_cases e : k = q
    · simp [e]
    · rw [if_neg e]
      simp only [List.length_cons, ih, ks, List.map_cons, List.mem_cons]
      by_cases h : k ∈ m.map (·.1)
      · have : 0 < m.length := by
          cases m with
          | nil => simp at h
          | cons => simp
        rw [if_pos h, if_pos (.inr h)]; omega
      · rw [if_neg h, if_neg (by rintro (h' | h'); exact e h'; exact h h')]
theorem nodup_filter {f : κ × υ → Bool} {m : List (κ × υ)} (h : (ks m).Nodup) : (ks (m.filter f)).Nodup := h.sublist (List.filter_sublist.map _)
/-- Two maps alike in what they give have alike many entries. -/
theorem len_eq {ω : Type} {m : List (κ × υ)} {m' : List (κ × ω)} (h : (ks m).Nodup) (h' : (ks m').Nodup) (hg : ∀ k, k ∈ ks m ↔ k ∈ ks m') : m.length = m'.length := by
  rw [← len_ks, ← len_ks]
  exact ((List.perm_ext_iff_of_nodup h h').2 hg).length_eq
end
end Go.Z
