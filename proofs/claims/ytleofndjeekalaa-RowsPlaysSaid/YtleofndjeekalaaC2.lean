/- Rows: the sort by versions in plain words; the sort's world in pieces. -/
import Derived.Test.YtleofndjeekalaaQ
namespace Go.Proofs.Ytleofndjeekalaa
open Go Go.RowKit
section
variable {α : Type} (f : α → Int)
def insB (x : α) (A : List α) : List α := A.filter (fun y => decide (f y ≤ f x)) ++ x :: A.filter (fun y => !decide (f y ≤ f x))
def isB : List α → List α
  | [] => []
  | x :: l => insB f x (isB l)
theorem insB_perm (x : α) (A : List α) : (insB f x A).Perm (x :: A) := List.perm_middle.trans (List.Perm.cons _ (List.filter_append_perm _ _))
theorem insB_sorted (x : α) (A : List α) (h : A.Pairwise (fun a b => f a ≤ f b)) : (insB f x A).Pairwise (fun a b => f a ≤ f b) := by
  unfold insB
  rw [List.pairwise_append]
  refine ⟨h.filter _, ?_, ?_⟩
  · rw [List.pairwise_cons]
    exact ⟨fun y hy => by have := (List.mem_filter.1 hy).2; simp at this; omega, h.filter _⟩
  · intro y hy z hz
    have h1 := (List.mem_filter.1 hy).2
    simp at h1
    rcases List.mem_cons.1 hz with e | e
    · subst e; exact h1
    · have h2 := (List.mem_filter.1 e).2
      simp at h2; omega
theorem isB_spec : ∀ l : List α, (isB f l).Perm l ∧ (isB f l).Pairwise (fun a b => f a ≤ f b)
  | [] => ⟨.refl _, .nil⟩
  | x :: l => ⟨(insB_perm f x _).trans (.cons _ (isB_spec l).1), insB_sorted f x _ (isB_spec l).2⟩
variable {f}
theorem sorted_uniq : ∀ {l l' : List α}, l.Pairwise (fun a b => f a ≤ f b) → l'.Pairwise (fun a b => f a ≤ f b) → l.Perm l' → (∀ a b, a ∈ l → b ∈ l → f a = f b → a = b) → l = l' := by
  intro l
  induction l with
  | nil => intro l' _ _ p _; exact (List.nil_perm.1 p).symm
  | cons x l ih =>
    intro l' h h' p hi
    cases l' with
    | nil => exact absurd p.length_eq (by simp)
    | cons y l' =>
      rw [List.pairwise_cons] at h h'
      have hx : x ∈ y :: l' := p.subset (by simp)
      have hy : y ∈ x :: l := p.symm.subset (by simp)
      have e : x = y := by
        rcases List.mem_cons.1 hx with e | e
        · exact e
        · rcases List.mem_cons.1 hy with e' | e'
          · exact e'.symm
          · exact hi x y (by simp) hy (by have := h.1 y e'; have := h'.1 x e; omega)
      subst e
      rw [ih h.2 h'.2 (List.Perm.cons_inv p) fun a b ha hb => hi a b (by simp [ha]) (by simp [hb])]
end
def fV (ver : VM) (c : Cell) : Int := Z.mval c 0 ver
def sortC (ver : VM) : List Cell := isB (fV ver) (Z.ks ver)
def cmpI (a b : Int) : Int := if a < b then -1 else if b < a then 1 else 0
def cfV (ver : VM) (x y : Cell) : Int := cmpI (fV ver x) (fV ver y)
theorem fV_inj {r : RSt} (h : r.ok) {a b : Cell} (ha : a ∈ Z.ks r.ver) (hb : b ∈ Z.ks r.ver) (e : fV r.ver a = fV r.ver b) : a = b := by
  obtain ⟨v, hv⟩ := Option.isSome_iff_exists.1 (Z.mget_isSome.2 ha)
  obtain ⟨u, hu⟩ := Option.isSome_iff_exists.1 (Z.mget_isSome.2 hb)
  unfold fV Z.mval at e
  rw [hv, hu] at e
  simp only at e
  subst e
  exact h.inj a b v hv hu
theorem sortC_len (ver : VM) : (sortC ver).length = ver.length := by
  have := (isB_spec (fV ver) (Z.ks ver)).1.length_eq
  simpa [sortC] using this
theorem sortC_uniq {r : RSt} (h : r.ok) {l : List Cell} (hp : l.Perm (Z.ks r.ver)) (hs : l.Pairwise (fun a b => fV r.ver a ≤ fV r.ver b)) : l = sortC r.ver :=
  sorted_uniq hs (isB_spec _ _).2 (hp.trans (isB_spec (fV r.ver) (Z.ks r.ver)).1.symm) fun a b ha hb e => fV_inj h (hp.subset ha) (hp.subset hb) e

section
open Go.Sort Go.Proofs Go.Shelf Go.Lib
instance : Inhabited Cell := ⟨Cell.z⟩
theorem ltOf_cf (ver : VM) (x y : Cell) : ltOf (cfV ver) x y = decide (fV ver x < fV ver y) := by
  unfold ltOf cfV cmpI
  by_cases h1 : fV ver x < fV ver y
  · simp [h1]
  · by_cases h2 : fV ver y < fV ver x <;> simp [h1, h2]
theorem swo_cf (ver : VM) : SWO (ltOf (cfV ver)) where
  irrefl x := by rw [ltOf_cf]; simp
  trans x y z h1 h2 := by rw [ltOf_cf] at *; simp at *; omega
  ntrans x y z h1 h2 := by rw [ltOf_cf] at *; simp at *; omega
theorem flat_get {cs : List Cell} {j : Nat} (hj : j < cs.length * 2) : (cs.flatMap Cell.c)[j]? = some ((cs.toArray[j / 2]!).c[j % 2]!) := by
  have hi : j / 2 < cs.length := by omega
  have h1 := Z.slc_flat Cell.len (xs := cs) (i := j / 2) (x := cs[j / 2]) [] (List.getElem?_eq_getElem hi)
  rw [List.append_nil] at h1
  have hr : j % 2 < 2 := by omega
  have h2 := Z.slc_get h1 (j := j % 2) (v := (cs[j / 2]).c[j % 2]'(by rw [Cell.len]; exact hr)) (by rw [List.getElem?_eq_getElem])
  rw [show j / 2 * 2 + j % 2 = j by omega] at h2
  rw [h2]
  have e1 : cs.toArray[j / 2]! = cs[j / 2] := by simp [hi]
  rw [e1]
  congr 1
  rw [List.getElem!_eq_getElem?_getD, List.getElem?_eq_getElem (by rw [Cell.len]; exact hr)]; rfl
theorem flatK_eq (cs : List Cell) : (flatK Cell.c 2 cs.toArray) = (cs.flatMap Cell.c).toArray := by
  apply Array.ext
  · simp [Z.flat_len Cell.len]
  · intro i h1 h2
    have hi : i < cs.length * 2 := by simpa using h1
    have h3 := flat_get hi
    have h4 := get_flatK Cell.c 2 cs.toArray i (by simpa using hi)
    rw [getElem!_pos _ i h1] at h4
    rw [h4]
    rw [List.getElem?_eq_getElem (by simpa using h2)] at h3
    simp only [List.getElem_toArray]
    exact (Option.some.inj h3).symm
theorem holds_cl {w : World} {db : Nat} {cs : List Cell} {sp : List Value} (h : w.heap[db]? = some (.cells (cs.flatMap Cell.c ++ sp).toArray 36 (0, 0))) : HoldsK Cell.c 2 w db 0 cs.toArray := by
  unfold HoldsK Holds
  intro j hj
  have hj' : j < cs.length * 2 := by simpa using hj
  refine ⟨?_, Z.frozen_of_block h _⟩
  rw [Z.cell_of_block h, Nat.zero_add, List.getElem?_append_left (by rw [Z.flat_len Cell.len]; exact hj'), flatK_eq]
  rw [getElem!_pos _ j (by simp [Z.flat_len Cell.len]; exact hj')]
  simp [List.getElem?_eq_getElem (show j < (cs.flatMap Cell.c).length by rw [Z.flat_len Cell.len]; exact hj')]
theorem putCells_eq {cs cs' : List Cell} {sp : List Value} (hl : cs'.length = cs.length) : putCells id 0 (flatK Cell.c 2 cs'.toArray) (cs.flatMap Cell.c ++ sp).toArray = (cs'.flatMap Cell.c ++ sp).toArray := by
  rw [flatK_eq]
  apply Array.ext_getElem?
  intro i
  unfold putCells
  simp only [Array.getElem?_mapIdx, List.getElem?_toArray, Nat.zero_add, List.size_toArray, Z.flat_len Cell.len, Nat.zero_le, true_and, Nat.sub_zero, id]
  rcases Nat.lt_or_ge i (cs.length * 2) with h | h
  · rw [List.getElem?_append_left (by rw [Z.flat_len Cell.len]; exact h), List.getElem?_append_left (by rw [Z.flat_len Cell.len]; omega), List.getElem?_eq_getElem (by rw [Z.flat_len Cell.len]; exact h), List.getElem?_eq_getElem (by rw [Z.flat_len Cell.len]; omega)]
    simp only [Option.map_some, hl, h, if_true]
    rw [getElem!_pos _ i (by simp [Z.flat_len Cell.len, hl]; exact h)]
    simp
  · rw [List.getElem?_append_right (by rw [Z.flat_len Cell.len]; exact h), List.getElem?_append_right (by rw [Z.flat_len Cell.len]; omega), Z.flat_len Cell.len, Z.flat_len Cell.len, hl]
    cases sp[i - cs.length * 2]? with
    | none => rfl
    | some v => simp only [Option.map_some, Nat.not_lt.2 h, if_false]
theorem sortW {w : World} {db m : Nat} {cs cs' : List Cell} {sp : List Value} {os : Array Obj} (h : w.heap[db]? = some (.cells (cs.flatMap Cell.c ++ sp).toArray 36 (0, 0))) (hl : cs'.length = cs.length) :
    (sortWorldK Cell.c 2 w db 0 m cs'.toArray os).os = w.os ∧ (sortWorldK Cell.c 2 w db 0 m cs'.toArray os).tape = w.tape ∧ (sortWorldK Cell.c 2 w db 0 m cs'.toArray os).output = w.output ∧ w.heap.size ≤ (sortWorldK Cell.c 2 w db 0 m cs'.toArray os).heap.size ∧ w.drawn ≤ (sortWorldK Cell.c 2 w db 0 m cs'.toArray os).drawn ∧
    (∀ j, j < w.heap.size → j ≠ db → (sortWorldK Cell.c 2 w db 0 m cs'.toArray os).heap[j]? = w.heap[j]?) ∧ (sortWorldK Cell.c 2 w db 0 m cs'.toArray os).heap[db]? = some (.cells (cs'.flatMap Cell.c ++ sp).toArray 36 (0, 0)) := by
  have hlt : db < w.heap.size := by
    rcases Nat.lt_or_ge db w.heap.size with h' | h'
    · exact h'
    · simp [Array.getElem?_eq_none h'] at h
  unfold sortWorldK grow putRowK putRow mapBlock Go.Sort.ahead
  refine ⟨rfl, rfl, rfl, by simp, by simp, fun j hj hne => ?_, ?_⟩
  · simp only [Array.getElem?_append, Array.size_modify, hj, if_true, Array.getElem?_modify]
    rw [if_neg (fun e => hne e.symm)]
  · simp only [Array.getElem?_append, Array.size_modify, hlt, if_true, Array.getElem?_modify, h, Option.map_some, onCells]
    rw [putCells_eq hl]
end
end Go.Proofs.Ytleofndjeekalaa
