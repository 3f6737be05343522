/- What a law's arguments read as: slices and structs, one inside the other. -/
import Derived.Test.YtleofndjeekalaaZ9
import Derived.Deep.Slices
namespace Go.Z
open Go Go.RowKit Go.ChangeShapes Go.WideShapes Go.Deep

section
variable {H : Type} {enc : TypeId × Value → H} {P : Program} {w : World}
/-- Whatever is read at type t fits Φ. -/
def Rd (enc : TypeId × Value → H) (P : Program) (w : World) (t : TypeId) (Φ : List Value → Prop) : Prop := ∀ fuel cs x, DataW.trod enc P w 0 (fun _ => true) true fuel t cs = some x → Φ cs
def IsInt (k : IntKind) (cs : List Value) : Prop := ∃ n, cs = [.int k n] ∧ (Lit.int k n).wf = true
def IsBool (cs : List Value) : Prop := ∃ b, cs = [.bool b]
def IsSlice (w : World) (k : Nat) (Φ : List Value → Prop) (cs : List Value) : Prop := ∃ p len cap, cs = [.slice p len cap] ∧
  ∃ rows : List (List Value), rows.length = len ∧ (∀ r ∈ rows, Φ r ∧ r.length = k) ∧ (0 < len → ∃ b o, p = some ⟨b, o, none⟩ ∧ Ro w b o rows.flatten)
theorem rd_int {t : TypeId} {k : IntKind} (h : P.underlying t = some (.int k)) : Rd enc P w t (IsInt k) := fun fuel cs x hx => by
  cases fuel with
  | zero => simp [DataW.trod] at hx
  | succ fuel =>
    unfold DataW.trod at hx
    rw [h] at hx
    match cs, hx with
    | [.int k' n], hx =>
      simp only at hx
      split at hx
      · rename_i hk; exact ⟨n, by rw [hk.1], hk.2⟩
      · cases hx
theorem rd_bool {t : TypeId} (h : P.underlying t = some .bool) : Rd enc P w t IsBool := fun fuel cs x hx => by
  cases fuel with
  | zero => simp [DataW.trod] at hx
  | succ fuel =>
    unfold DataW.trod at hx
    rw [h] at hx
    match cs, hx with
    | [.bool b], hx => exact ⟨b, rfl⟩
theorem flatten_get {k : Nat} : ∀ {rows : List (List Value)} {j : Nat} {v : Value}, (∀ r ∈ rows, r.length = k) → rows.flatten[j]? = some v → ∃ i u r, j = i * k + u ∧ u < k ∧ rows[i]? = some r ∧ r[u]? = some v
  | [], j, v, _, h => by simp at h
  | r :: rows, j, v, hk, h => by
    have hr := hk r (by simp)
    simp only [List.flatten_cons] at h
    rcases Nat.lt_or_ge j r.length with hj | hj
    · rw [List.getElem?_append_left hj] at h
      exact ⟨0, j, r, by omega, by omega, rfl, h⟩
    · rw [List.getElem?_append_right hj] at h
      obtain ⟨i, u, r', h1, h2, h3, h4⟩ := flatten_get (fun r' hr' => hk r' (by simp [hr'])) h
      exact ⟨i + 1, u, r', by rw [Nat.add_mul]; omega, h2, by simpa using h3, h4⟩
theorem cells_get {base n : Nat} {a : Addr} {cs : List Value} (h : w.cells? base a n = some cs) : cs.length = n ∧ ∀ (j : Nat) v, cs[j]? = some v → w.cell? (a.add j) = some v := by
  obtain ⟨_, hl, hg⟩ := World.cells?_some h
  refine ⟨hl, fun j v hj => ?_⟩
  have hjl : j < n := by
    rcases Nat.lt_or_ge j cs.length with h' | h'
    · omega
    · rw [List.getElem?_eq_none h'] at hj; cases hj
  rw [hg j hjl, hj]
theorem rd_slice {t e : TypeId} {k : Nat} {Φ : List Value → Prop} (h : P.underlying t = some (.slice e)) (hk : P.cellsOf e = k) (hk0 : 0 < k) (he : Rd enc P w e Φ) : Rd enc P w t (IsSlice w k Φ) := fun fuel cs x hx => by
  rcases open_slice h hx with ⟨h0, _⟩ | ⟨a, len, cap, m, n, D, Pl, rfl, hb, hl, hm, hmm, _, hread⟩
  · exact ⟨none, 0, 0, h0, [], rfl, by simp, by simp⟩
  · have hmc : m = cap := by simpa using hmm
    have hx2 : ∀ i, i < len → ∃ cs', w.cells? 0 (a.add (i * k)) k = some cs' ∧ Φ cs' := fun i hi => by
      obtain ⟨cs', h1, h2⟩ := hread i (by omega)
      rw [hk] at h1
      exact ⟨cs', h1, he _ _ _ h2⟩
    obtain ⟨F, hF⟩ := choose_lt hx2
    refine ⟨some a, len, cap, rfl, (List.range len).map F, by simp, ?_, fun h0 => ?_⟩
    · intro r hr
      obtain ⟨i, hi, rfl⟩ := List.mem_map.1 hr
      obtain ⟨h1, h2⟩ := hF i (by simpa using hi)
      exact ⟨h2, (cells_get h1).1⟩
    · have h1 := hF 0 h0
      have hne : ∃ v, (F 0)[0]? = some v := ⟨(F 0)[0]'(by rw [(cells_get h1.1).1]; exact hk0), by rw [List.getElem?_eq_getElem]⟩
      obtain ⟨v, hv⟩ := hne
      have hc := (cells_get h1.1).2 0 v hv
      rw [Nat.zero_mul, Deep.add_add] at hc
      obtain ⟨b, o, s⟩ := a
      have hs : s = none := by
        cases s with
        | none => rfl
        | some s =>
          exfalso
          simp [Addr.add, World.cell?] at hc
          split at hc <;> cases hc
      subst hs
      refine ⟨b, o, rfl, ?_, fun j v hj => ?_⟩
      · rcases Nat.lt_or_ge b w.heap.size with h' | h'
        · exact h'
        · rw [add_none] at hc; simp [World.cell?, Array.getElem?_eq_none h'] at hc
      · obtain ⟨i, u, r, hj', hu, hr, hru⟩ := flatten_get (k := k) (fun r hr => by
          obtain ⟨i, hi, rfl⟩ := List.mem_map.1 hr
          exact (cells_get (hF i (by simpa using hi)).1).1) hj
        have hil : i < len := by
          rcases Nat.lt_or_ge i len with h' | h'
          · exact h'
          · rw [List.getElem?_eq_none (by simpa using h')] at hr; cases hr
        rw [List.getElem?_map, List.getElem?_range hil] at hr
        obtain rfl := Option.some.inj hr
        have := (cells_get (hF i hil).1).2 u v hru
        rw [Deep.add_add, add_none, ← hj'] at this
        exact this
def parts : List (List Value → Prop) → List Value → Prop
  | [], cs => cs = []
  | Φ :: Φs, cs => ∃ c r, cs = c ++ r ∧ Φ c ∧ parts Φs r
inductive FL (enc : TypeId × Value → H) (P : Program) (w : World) : Nat → List Field → List (List Value → Prop) → Nat → Prop
  | nil {off : Nat} : FL enc P w off [] [] off
  | cons {off k tot : Nat} {f : Field} {fs : List Field} {Φ : List Value → Prop} {Φs : List (List Value → Prop)} : f.offset = off → P.cellsOf f.type = k → Rd enc P w f.type Φ → FL enc P w (off + k) fs Φs tot → FL enc P w off (f :: fs) (Φ :: Φs) tot
theorem mapM_mem {α β : Type} {f : α → Option β} : ∀ {l : List α} {r : List β}, l.mapM f = some r → ∀ a ∈ l, ∃ b, f a = some b
  | [], _, _, a, ha => by cases ha
  | x :: l, r, h, a, ha => by
    rw [List.mapM_cons] at h
    cases hx : f x with
    | none => rw [hx] at h; cases h
    | some y =>
      rw [hx] at h
      cases hl : l.mapM f with
      | none => rw [hl] at h; cases h
      | some ys =>
        rcases List.mem_cons.1 ha with e | e
        · exact ⟨y, by rw [e]; exact hx⟩
        · exact mapM_mem hl a e
theorem fl_parts {off tot : Nat} {fs : List Field} {Φs : List (List Value → Prop)} (h : FL enc P w off fs Φs tot) {cs : List Value} (hl : cs.length = tot) (hr : ∀ f ∈ fs, ∃ fuel x, DataW.trod enc P w 0 (fun _ => true) true fuel f.type ((cs.drop f.offset).take (P.cellsOf f.type)) = some x) : parts Φs (cs.drop off) := by
  induction h with
  | nil => exact List.drop_eq_nil_of_le (by omega)
  | @cons off k tot f fs Φ Φs h1 h2 h3 h4 ih =>
    obtain ⟨fuel, x, hx⟩ := hr f (by simp)
    rw [h1, h2] at hx
    refine ⟨(cs.drop off).take k, cs.drop (off + k), ?_, h3 _ _ _ hx, ih hl fun g hg => hr g (by simp [hg])⟩
    rw [← List.drop_drop]
    exact (List.take_append_drop _ _).symm
theorem rd_struct {t : TypeId} {fs : Array Field} {tot : Nat} {Φs : List (List Value → Prop)} (h : P.underlying t = some (.struct fs)) (ht : P.cellsOf t = tot) (hf : FL enc P w 0 fs.toList Φs tot) : Rd enc P w t (parts Φs) := fun fuel cs x hx => by
  cases fuel with
  | zero => simp [DataW.trod] at hx
  | succ fuel =>
    unfold DataW.trod at hx
    rw [h] at hx
    simp only at hx
    split at hx
    · rename_i hl
      obtain ⟨xs, hxs, _⟩ := Option.map_eq_some_iff.1 hx
      have := fl_parts hf (by rw [hl]; exact ht) fun f hfm => by
        obtain ⟨y, hy⟩ := mapM_mem hxs f hfm
        exact ⟨fuel, y, hy⟩
      simpa using this
    · cases hx
theorem Rd.mono {t : TypeId} {Φ Ψ : List Value → Prop} (h : Rd enc P w t Φ) (f : ∀ cs, Φ cs → Ψ cs) : Rd enc P w t Ψ := fun fuel cs x hx => f _ (h fuel cs x hx)
theorem Rd.trod {t : TypeId} {Φ : List Value → Prop} {v : Value} {d : DataW H} {p : List MemPlace} (h : Rd enc P w t Φ) (ht : DataW.Trod enc P w 0 (fun _ => true) true t v d p) : Φ v.cells.toList := let ⟨fuel, hf⟩ := ht; h fuel _ _ hf
end
end Go.Z
namespace Go.Z
open Go Go.RowKit
theorem rows_enc {α : Type} {c : α → List Value} : ∀ {rows : List (List Value)}, (∀ r ∈ rows, ∃ x, r = c x) → ∃ xs : List α, rows = xs.map c
  | [], _ => ⟨[], rfl⟩
  | r :: rows, h => by
    obtain ⟨x, hx⟩ := h r (by simp)
    obtain ⟨xs, hxs⟩ := rows_enc (rows := rows) fun r' hr' => h r' (by simp [hr'])
    exact ⟨x :: xs, by rw [hx, hxs]; rfl⟩
theorem flat_len {α : Type} {c : α → List Value} {k : Nat} (hk : ∀ x, (c x).length = k) (xs : List α) : (xs.flatMap c).length = xs.length * k := by
  induction xs with
  | nil => simp
  | cons x xs ih => simp only [List.flatMap_cons, List.length_append, ih, hk, List.length_cons, Nat.add_mul, Nat.one_mul]; omega
theorem slc_flat {α : Type} {c : α → List Value} {k : Nat} (hk : ∀ x, (c x).length = k) {xs : List α} {i : Nat} {x : α} (sp : List Value) (h : xs[i]? = some x) : slc (xs.flatMap c ++ sp) (i * k) k = some (c x) := by
  have hi : i < xs.length := (List.getElem?_eq_some_iff.1 h).1
  have e : xs = xs.take i ++ x :: xs.drop (i + 1) := by
    conv => lhs; rw [← List.take_append_drop i xs, List.drop_eq_getElem_cons hi]
    rw [List.getElem?_eq_getElem hi] at h
    rw [Option.some.inj h]
  have h1 : ((xs.take i).flatMap c).length = i * k := by rw [flat_len hk, List.length_take, Nat.min_eq_left (by omega)]
  have h2 : xs.flatMap c ++ sp = (xs.take i).flatMap c ++ (c x ++ ((xs.drop (i + 1)).flatMap c ++ sp)) := by
    conv => lhs; rw [e]
    simp
  rw [h2, slc_mk (by simp only [List.length_append, h1, hk]; omega)]
  congr 1
  rw [List.drop_append_of_le_length (by omega), List.drop_of_length_le (by omega), List.nil_append, List.take_append_of_le_length (by rw [hk]; omega), List.take_of_length_le (by rw [hk]; omega)]
/-- A slice of records that came in. -/
theorem slice_ro {α : Type} {c : α → List Value} {w : World} {k : Nat} {Φ : List Value → Prop} {p : Option Addr} {len cap : Nat} (hΦ : ∀ cs, Φ cs → ∃ x : α, cs = c x) (h : IsSlice w k Φ [.slice p len cap]) :
    ∃ xs : List α, xs.length = len ∧ (∀ x ∈ xs, Φ (c x)) ∧ (0 < len → ∃ b o, p = some ⟨b, o, none⟩ ∧ Ro w b o (xs.flatMap c)) := by
  obtain ⟨p', len', cap', e, rows, h1, h2, h3⟩ := h
  simp at e
  obtain ⟨rfl, rfl, rfl⟩ := e
  obtain ⟨xs, rfl⟩ := rows_enc (c := c) fun r hr => hΦ r (h2 r hr).1
  refine ⟨xs, by simpa using h1, fun x hx => (h2 _ (List.mem_map.2 ⟨x, hx, rfl⟩)).1, fun h0 => ?_⟩
  obtain ⟨b, o, hp, hro⟩ := h3 h0
  exact ⟨b, o, hp, by rw [List.flatMap_def]; exact hro⟩
end Go.Z
