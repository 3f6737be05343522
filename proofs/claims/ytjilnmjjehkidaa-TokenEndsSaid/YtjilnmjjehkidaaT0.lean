/- Token: the plain words: sessions, tables, what each of the table's functions answers. -/
import Derived.IntWalk
import Derived.Test.YtjilnmjjehkidaaZe
import Derived.Test.YtjilnmjjehkidaaRows
namespace Go.Proofs.Ytjilnmjjehkidaa
open Go Go.RowKit

structure Sess where
  p : Int
  b : Int
  l : Int
  deriving DecidableEq
def Sess.e (s : Sess) : Value := .agg #[.int .i64 s.p, .int .i64 s.b, .int .i64 s.l]
abbrev M := List (Int × Sess)
structure Tab where
  m : M
  most : Int
  idle : Int
  abs : Int
  deriving DecidableEq
def Sess.z : Sess := ⟨0, 0, 0⟩

def gone (since now span : Int) : Bool := match (decide (now < since)) != decide (IntKind.i64.wrap (now - since) < 0) with
  | true => decide (since < now)
  | false => decide (span ≤ IntKind.i64.wrap (now - since))
def ended (idle abs : Int) (s : Sess) (now : Int) : Bool := gone s.l now idle || gone s.b now abs
def Tab.ended (t : Tab) (s : Sess) (now : Int) : Bool := Go.Proofs.Ytjilnmjjehkidaa.ended t.idle t.abs s now
def Tab.sweep (t : Tab) (now : Int) : Tab := { t with m := t.m.filter fun p => !t.ended p.2 now }
def Tab.openE (t : Tab) (draw now : Int) : Int :=
  if draw = 0 ∨ (Z.mget draw (t.sweep now).m).isSome = true then 41 else if ((t.sweep now).m.length : Int) = t.most then 3 else 0
def Tab.openT (t : Tab) (person draw now : Int) : Tab :=
  if t.openE draw now = 0 then { t with m := Z.mput draw ⟨person, now, now⟩ (t.sweep now).m } else t.sweep now
def Tab.has (t : Tab) (k now : Int) : Option Sess := match Z.mget k t.m with
  | none => none
  | some s => if t.ended s now = true then none else some s
def Tab.useT (t : Tab) (k now : Int) : Tab := match t.has k now with
  | none => { t with m := Z.mdel k t.m }
  | some s => { t with m := Z.mput k { s with l := now } t.m }
def Tab.useP (t : Tab) (k now : Int) : Int := match t.has k now with
  | none => 0
  | some s => s.p
def Tab.useE (t : Tab) (k now : Int) : Int := match t.has k now with
  | none => 41
  | some _ => 0
def Tab.close (t : Tab) (k : Int) : Tab := { t with m := Z.mdel k t.m }
def keys (m : M) : List Int := m.map (·.1)
structure Tab.ok (t : Tab) : Prop where
  nd : (keys t.m).Nodup
  len : t.m.length ≤ 1000000

/-! ### the sort -/
def swap (l : List Int) (j : Nat) : List Int := (l.set (j + 1) (l.getD j 0)).set j (l.getD (j + 1) 0)
def inn : Nat → List Int → List Int
  | 0, l => l
  | j + 1, l => if l.getD (j + 1) 0 < l.getD j 0 then inn j (swap l j) else l
def isrt : Nat → Nat → List Int → List Int
  | 0, _, l => l
  | f + 1, i, l => isrt f (i + 1) (inn i l)
def sortL (l : List Int) : List Int := isrt (l.length - 1) 1 l
def ins (x : Int) (A : List Int) : List Int := A.filter (fun y => decide (y ≤ x)) ++ x :: A.filter (fun y => decide (x < y))
theorem swap_len (l : List Int) (j : Nat) : (swap l j).length = l.length := by simp [swap]
theorem inn_len : ∀ (j : Nat) (l : List Int), (inn j l).length = l.length
  | 0, l => rfl
  | j + 1, l => by simp only [inn]; split
                   · rw [inn_len j, swap_len]
                   · rfl
theorem isrt_len : ∀ (f i : Nat) (l : List Int), (isrt f i l).length = l.length
  | 0, _, _ => rfl
  | f + 1, i, l => by simp only [isrt]; rw [isrt_len f, inn_len]
theorem inn_spec : ∀ (A : List Int) (x : Int) (B : List Int), A.Pairwise (· ≤ ·) → inn A.length (A ++ x :: B) = ins x A ++ B := by
  intro A
  induction h : A.length generalizing A with
  | zero => intro x B _; have := List.eq_nil_of_length_eq_zero h; subst this; rfl
  | succ n ih =>
    intro x B hs
    obtain ⟨A', a, rfl⟩ : ∃ A' a, A = A' ++ [a] := ⟨A.dropLast, A.getLast (by intro h'; rw [h'] at h; simp at h), (List.dropLast_concat_getLast _).symm⟩
    have hn : A'.length = n := by simp at h; exact h
    have g1 : (A' ++ [a] ++ x :: B).getD (n + 1) 0 = x := by
      rw [List.getD_eq_getElem?_getD, List.getElem?_append_right (by simp; omega)]; simp [hn]
    have g2 : (A' ++ [a] ++ x :: B).getD n 0 = a := by
      rw [List.append_assoc, List.getD_eq_getElem?_getD, List.getElem?_append_right (by omega)]; simp [hn]
    have hs' := List.pairwise_append.1 hs
    simp only [inn, g1, g2]
    by_cases hlt : x < a
    · rw [if_pos hlt]
      have e : swap (A' ++ [a] ++ x :: B) n = A' ++ x :: (a :: B) := by
        unfold swap
        rw [g1, g2]
        apply List.ext_getElem?
        intro i
        simp only [List.getElem?_set, List.append_assoc, List.cons_append, List.nil_append, List.length_append, List.length_cons, List.length_set]
        by_cases h1 : n = i
        · subst h1
          rw [if_pos rfl, if_pos (by omega), List.getElem?_append_right (by omega)]; simp [hn]
        · rw [if_neg h1]
          by_cases h2 : n + 1 = i
          · subst h2
            rw [if_pos rfl, if_pos (by omega), List.getElem?_append_right (by omega)]; simp [hn]
          · rw [if_neg h2]
            rcases Nat.lt_or_ge i n with h3 | h3
            · rw [List.getElem?_append_left (by omega), List.getElem?_append_left (by omega)]
            · rw [List.getElem?_append_right (by omega), List.getElem?_append_right (by omega)]
              obtain ⟨j, hj⟩ : ∃ j, i - A'.length = j + 2 := ⟨i - A'.length - 2, by omega⟩
              rw [hj]; simp
      rw [e, ih A' hn x (a :: B) hs'.1]
      simp only [ins, List.filter_append]
      have f1 : [a].filter (fun y => decide (y ≤ x)) = [] := by simp; omega
      have f2 : [a].filter (fun y => decide (x < y)) = [a] := by simp; omega
      rw [f1, f2]; simp
    · rw [if_neg hlt]
      have hall : ∀ y ∈ A' ++ [a], y ≤ x := by
        intro y hy
        rcases List.mem_append.1 hy with h1 | h1
        · have := hs'.2.2 y h1 a (by simp); omega
        · simp at h1; subst h1; omega
      have f1 : (A' ++ [a]).filter (fun y => decide (y ≤ x)) = A' ++ [a] := List.filter_eq_self.2 fun y hy => by simp; exact hall y hy
      have f2 : (A' ++ [a]).filter (fun y => decide (x < y)) = [] := List.filter_eq_nil_iff.2 fun y hy => by have := hall y hy; simp; omega
      simp only [ins]
      rw [f1, f2]; simp
theorem ins_perm (x : Int) (A : List Int) : (ins x A).Perm (x :: A) := by
  unfold ins
  refine List.perm_middle.trans (List.Perm.cons _ ?_)
  have e : A.filter (fun y => decide (x < y)) = A.filter (fun y => !decide (y ≤ x)) := List.filter_congr fun y _ => by
    by_cases h : y ≤ x <;> simp [h] <;> omega
  rw [e]
  exact List.filter_append_perm _ _
theorem ins_sorted (x : Int) (A : List Int) (h : A.Pairwise (· ≤ ·)) : (ins x A).Pairwise (· ≤ ·) := by
  unfold ins
  rw [List.pairwise_append]
  refine ⟨h.filter _, ?_, ?_⟩
  · rw [List.pairwise_cons]
    exact ⟨fun y hy => by have := (List.mem_filter.1 hy).2; simp at this; omega, h.filter _⟩
  · intro y hy z hz
    have h1 := (List.mem_filter.1 hy).2
    simp at h1
    rcases List.mem_cons.1 hz with e | e
    · subst e; exact h1
    · have h2 := (List.mem_filter.1 e).2
      simp at h2; omega
theorem isrt_spec : ∀ (f : Nat) (A B : List Int), A.Pairwise (· ≤ ·) → B.length = f → (isrt f A.length (A ++ B)).Pairwise (· ≤ ·) ∧ (isrt f A.length (A ++ B)).Perm (A ++ B)
  | 0, A, B, h, hb => by
    have := List.eq_nil_of_length_eq_zero hb; subst this
    simp only [isrt, List.append_nil]; exact ⟨h, .refl _⟩
  | f + 1, A, x :: B, h, hb => by
    simp only [isrt]
    rw [inn_spec A x B h]
    have hl : (ins x A).length = A.length + 1 := by have := (ins_perm x A).length_eq; simpa using this
    rw [← hl]
    obtain ⟨h1, h2⟩ := isrt_spec f (ins x A) B (ins_sorted x A h) (by simpa using hb)
    refine ⟨h1, h2.trans (((ins_perm x A).append_right B).trans ?_)⟩
    exact (List.perm_middle (l₁ := A)).symm
  | f + 1, A, [], h, hb => by simp at hb
theorem sortL_spec (l : List Int) : (sortL l).Pairwise (· ≤ ·) ∧ (sortL l).Perm l := by
  cases l with
  | nil => exact ⟨by simp [sortL, isrt], .refl _⟩
  | cons x l =>
    have := isrt_spec l.length [x] l (by simp) rfl
    simpa [sortL] using this
theorem sorted_unique : ∀ {l l' : List Int}, l.Pairwise (· ≤ ·) → l'.Pairwise (· ≤ ·) → l.Perm l' → l = l' := by
  intro l
  induction l with
  | nil => intro l' _ _ p; exact (List.nil_perm.1 p).symm
  | cons x l ih =>
    intro l' h h' p
    cases l' with
    | nil => exact absurd p.symm.nil_eq.symm (by simp)
    | cons y l' =>
      rw [List.pairwise_cons] at h h'
      have e : x = y := by
        have h1 : x ∈ y :: l' := p.subset (by simp)
        have h2 : y ∈ x :: l := p.symm.subset (by simp)
        rcases List.mem_cons.1 h1 with e | e
        · exact e
        · rcases List.mem_cons.1 h2 with e' | e'
          · exact e'.symm
          · have := h.1 y e'; have := h'.1 x e; omega
      subst e
      rw [ih h.2 h'.2 (List.Perm.cons_inv p)]
theorem sortL_perm {l l' : List Int} (h : l.Perm l') : sortL l = sortL l' :=
  sorted_unique (sortL_spec l).1 (sortL_spec l').1 ((sortL_spec l).2.trans (h.trans (sortL_spec l').2.symm))

/-! ### pieces -/
def TabF (tb mb : Nat) (t : Tab) : List Z.SP := [Z.cl tb 54 [.map (some mb), .int .i64 t.most, .int .i64 t.idle, .int .i64 t.abs], Z.MapP mb (Value.int .u64) Sess.e t.m]
def TabP (tb : Nat) (t : Tab) : Z.SP := fun h => ∃ mb, Z.sep (TabF tb mb t) h
theorem kU64 : Z.KeyOK Try.prog 31 (Value.int .u64) := Z.keyOK_int Try.underlying31
theorem has_none {t : Tab} {k now : Int} (h : (Z.mget k t.m).isSome = false ∨ t.ended (Z.mval k Sess.z t.m) now = true) : t.has k now = none := by
  unfold Tab.has
  unfold Z.mval at h
  cases hm : Z.mget k t.m with
  | none => rfl
  | some s => rw [hm] at h; simp at h; simp [h]
theorem has_some {t : Tab} {k now : Int} (h : (Z.mget k t.m).isSome = true) (h2 : t.ended (Z.mval k Sess.z t.m) now = false) : t.has k now = some (Z.mval k Sess.z t.m) := by
  unfold Tab.has
  unfold Z.mval at h2 ⊢
  cases hm : Z.mget k t.m with
  | none => rw [hm] at h; cases h
  | some s => rw [hm] at h2; simp at h2; simp [h2]
theorem mget_none_mdel {k : Int} {m : M} (h : (Z.mget k m).isSome = false) : Z.mdel k m = m := by
  refine Z.mdel_none (i := 0) ?_
  have := Z.mget_fnd (k := k) (m := m) (i := 0)
  cases hf : Z.mfnd k m 0 with
  | none => rfl
  | some p => rw [hf] at this; rw [this] at h; cases h
end Go.Proofs.Ytjilnmjjehkidaa
namespace Go.Proofs.Ytjilnmjjehkidaa
open Go Go.RowKit
def spanB (n : Int) : Bool := decide (1 ≤ n) && decide (n ≤ 1125899906842624)
def rightB (most idle abs : Int) : Bool := decide (1 ≤ most) && decide (most ≤ 64) && spanB idle && spanB abs
theorem openT_41 {t : Tab} {p d now : Int} (h : d = 0 ∨ (Z.mget d (t.sweep now).m).isSome = true) : t.openE d now = 41 ∧ t.openT p d now = t.sweep now := by
  have : t.openE d now = 41 := by unfold Tab.openE; rw [if_pos h]
  exact ⟨this, by unfold Tab.openT; rw [this]; rfl⟩
theorem openT_3 {t : Tab} {p d now : Int} (h1 : ¬ d = 0) (h2 : (Z.mget d (t.sweep now).m).isSome = false) (h3 : ((t.sweep now).m.length : Int) = t.most) : t.openE d now = 3 ∧ t.openT p d now = t.sweep now := by
  have : t.openE d now = 3 := by unfold Tab.openE; rw [if_neg (by simp [h1, h2]), if_pos h3]
  exact ⟨this, by unfold Tab.openT; rw [this]; rfl⟩
theorem openT_0 {t : Tab} {p d now : Int} (h1 : ¬ d = 0) (h2 : (Z.mget d (t.sweep now).m).isSome = false) (h3 : ¬ ((t.sweep now).m.length : Int) = t.most) : t.openE d now = 0 ∧ t.openT p d now = { t with m := Z.mput d ⟨p, now, now⟩ (t.sweep now).m } := by
  have : t.openE d now = 0 := by unfold Tab.openE; rw [if_neg (by simp [h1, h2]), if_neg h3]
  exact ⟨this, by unfold Tab.openT; rw [this]; rfl⟩
theorem use_none {t : Tab} {k now : Int} (h : t.has k now = none) : t.useT k now = { t with m := Z.mdel k t.m } ∧ t.useP k now = 0 ∧ t.useE k now = 41 := by
  simp [Tab.useT, Tab.useP, Tab.useE, h]
theorem use_some {t : Tab} {k now : Int} {s : Sess} (h : t.has k now = some s) : t.useT k now = { t with m := Z.mput k { s with l := now } t.m } ∧ t.useP k now = s.p ∧ t.useE k now = 0 := by
  simp [Tab.useT, Tab.useP, Tab.useE, h]
theorem sweep_len {t : Tab} {now : Int} : (t.sweep now).m.length ≤ t.m.length := List.length_filter_le _ _
theorem fnD_fold {P : Program} {w0 : World} {f : FuncId} {args : List Value} {Pre : List Z.SP} {v : Value} (h : Z.FnD P w0 f args Pre v Pre) : Z.FnD P w0 f args [Z.sep Pre] v [Z.sep Pre] := fun Fr w hs =>
  (h Fr w (hs.imp fun _ H => Z.sep_flat H)).mono fun _ _ ⟨e, h⟩ => ⟨e, h.imp fun _ H => Z.sep_fold H⟩
end Go.Proofs.Ytjilnmjjehkidaa
