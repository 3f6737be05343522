/- Readers of slices, with Go's bound on their length. -/
import Derived.Test.YtleofndjeekalaaZt
import Derived.Test.YtleofndjeekalaaZr
namespace Go.Z
open Go Go.RowKit Go.ChangeShapes Go.WideShapes Go.Deep

section
variable {H : Type} {enc : TypeId × Value → H} {P : Program} {w : World}
def IsSliceM (w : World) (k : Nat) (Φ : List Value → Prop) (cs : List Value) : Prop := ∃ p len cap, cs = [.slice p len cap] ∧ len ≤ maxLen ∧
  ∃ rows : List (List Value), rows.length = len ∧ (∀ r ∈ rows, Φ r ∧ r.length = k) ∧ (0 < len → ∃ b o, p = some ⟨b, o, none⟩ ∧ Ro w b o rows.flatten)
theorem rd_sliceM {t e : TypeId} {k : Nat} {Φ : List Value → Prop} (h : P.underlying t = some (.slice e)) (hk : P.cellsOf e = k) (hk0 : 0 < k) (he : Rd enc P w e Φ) : Rd enc P w t (IsSliceM w k Φ) := fun fuel cs x hx => by
  rcases open_slice h hx with ⟨h0, _⟩ | ⟨a, len, cap, m, n, D, Pl, rfl, hb, hl, hm, hmm, _, hread⟩
  · exact ⟨none, 0, 0, h0, by decide, [], rfl, by simp, by simp⟩
  · have hmc : m = cap := by simpa using hmm
    have hx2 : ∀ i, i < len → ∃ cs', w.cells? 0 (a.add (i * k)) k = some cs' ∧ Φ cs' := fun i hi => by
      obtain ⟨cs', h1, h2⟩ := hread i (by omega)
      rw [hk] at h1
      exact ⟨cs', h1, he _ _ _ h2⟩
    obtain ⟨F, hF⟩ := choose_lt hx2
    refine ⟨some a, len, cap, rfl, Nat.le_trans hl hm, (List.range len).map F, by simp, ?_, fun h0 => ?_⟩
    · intro r hr
      obtain ⟨i, hi, rfl⟩ := List.mem_map.1 hr
      obtain ⟨h1, h2⟩ := hF i (by simpa using hi)
      exact ⟨h2, (cells_get h1).1⟩
    · have h1 := hF 0 h0
      have hne : ∃ v, (F 0)[0]? = some v := ⟨(F 0)[0]'(by rw [(cells_get h1.1).1]; exact hk0), by rw [List.getElem?_eq_getElem]⟩
      obtain ⟨v, hv⟩ := hne
      have hc := (cells_get h1.1).2 0 v hv
      rw [Nat.zero_mul, Deep.add_add] at hc
      obtain ⟨b, o, s⟩ := a
      have hs : s = none := by
        cases s with
        | none => rfl
        | some s =>
          exfalso
          simp [Addr.add, World.cell?] at hc
          split at hc <;> cases hc
      subst hs
      refine ⟨b, o, rfl, ?_, fun j v hj => ?_⟩
      · rcases Nat.lt_or_ge b w.heap.size with h' | h'
        · exact h'
        · rw [add_none] at hc; simp [World.cell?, Array.getElem?_eq_none h'] at hc
      · obtain ⟨i, u, r, hj', hu, hr, hru⟩ := flatten_get (k := k) (fun r hr => by
          obtain ⟨i, hi, rfl⟩ := List.mem_map.1 hr
          exact (cells_get (hF i (by simpa using hi)).1).1) hj
        have hil : i < len := by
          rcases Nat.lt_or_ge i len with h' | h'
          · exact h'
          · rw [List.getElem?_eq_none (by simpa using h')] at hr; cases hr
        rw [List.getElem?_map, List.getElem?_range hil] at hr
        obtain rfl := Option.some.inj hr
        have := (cells_get (hF i hil).1).2 u v hru
        rw [Deep.add_add, add_none, ← hj'] at this
        exact this

theorem slice_roM {α : Type} {c : α → List Value} {w : World} {k : Nat} {Φ : List Value → Prop} {p : Option Addr} {len cap : Nat} (hΦ : ∀ cs, Φ cs → ∃ x : α, cs = c x) (h : IsSliceM w k Φ [.slice p len cap]) :
    ∃ xs : List α, xs.length = len ∧ len ≤ maxLen ∧ (∀ x ∈ xs, Φ (c x)) ∧ (0 < len → ∃ b o, p = some ⟨b, o, none⟩ ∧ Ro w b o (xs.flatMap c)) := by
  obtain ⟨p', len', cap', e, hm, hrest⟩ := h
  have e' := e
  simp at e'
  obtain ⟨_, e2, _⟩ := e'
  subst e2
  obtain ⟨xs, h1, h2, h3⟩ := slice_ro hΦ (⟨p', len, cap', e, hrest⟩ : IsSlice w k Φ [.slice p len cap])
  exact ⟨xs, h1, hm, h2, h3⟩
end
end Go.Z
