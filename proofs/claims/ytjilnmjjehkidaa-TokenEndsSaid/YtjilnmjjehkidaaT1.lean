/- Token: plain words for the sort's cells, the keys' rows, the pairs that are told. -/
import Derived.Test.YtjilnmjjehkidaaT0
namespace Go.Proofs.Ytjilnmjjehkidaa
open Go Go.RowKit
abbrev u64s (l : List Int) : List Value := l.map (Value.int .u64)
abbrev i64s (l : List Int) : List Value := l.map (Value.int .i64)
theorem slc_one (x : Value) (sp : List Value) : Z.slc ([x] ++ sp) 0 1 = some [x] := by
  rw [Z.slc_mk (by simp)]; simp
theorem ovw_l : ∀ (l : List Int) (sp : List Value) (j : Nat) (x : Int), j < l.length → Z.ovw (u64s l ++ sp) j [.int .u64 x] = some (u64s (l.set j x) ++ sp)
  | [], _, _, _, h => by simp at h
  | y :: l, sp, 0, x, _ => by
    cases h : u64s l ++ sp <;> simp [u64s, Z.ovw] at h ⊢ <;> simp [h, Z.ovw]
  | y :: l, sp, j + 1, x, h => by
    have := ovw_l l sp j x (by simpa using h)
    simp only [u64s, List.map_cons, List.cons_append, Z.ovw, List.set_cons_succ] at this ⊢
    rw [this]
theorem get_l {l : List Int} {sp : List Value} {j : Nat} (h : j < l.length) : (u64s l ++ sp)[j]? = some (.int .u64 (l.getD j 0)) := by
  rw [List.getElem?_append_left (by simpa using h)]
  simp [List.getElem?_eq_getElem h, List.getD]
theorem inn_less {l : List Int} {j : Nat} (hj : 0 < j) (h : l.getD j 0 < l.getD (j - 1) 0) : inn j l = inn (j - 1) (swap l (j - 1)) := by
  obtain ⟨k, rfl⟩ : ∃ k, j = k + 1 := ⟨j - 1, by omega⟩
  simp only [Nat.add_sub_cancel] at h ⊢
  simp only [inn, if_pos h]
theorem inn_stop {l : List Int} {j : Nat} (h : 0 < j → ¬ l.getD j 0 < l.getD (j - 1) 0) : inn j l = l := by
  cases j with
  | zero => rfl
  | succ k => simp only [inn]; rw [if_neg (by simpa using h (by omega))]
theorem swap_eq {l : List Int} {j : Nat} (hj : 0 < j) : swap l (j - 1) = (l.set j (l.getD (j - 1) 0)).set (j - 1) (l.getD j 0) := by
  obtain ⟨k, rfl⟩ : ∃ k, j = k + 1 := ⟨j - 1, by omega⟩
  simp [swap]
theorem isrt_step {l : List Int} {n i : Nat} (h : i < n) : isrt (n - i) i l = isrt (n - (i + 1)) (i + 1) (inn i l) := by
  obtain ⟨k, hk⟩ : ∃ k, n - i = k + 1 := ⟨n - i - 1, by omega⟩
  rw [hk, show n - (i + 1) = k by omega]; rfl
theorem isrt_end {l : List Int} {n i : Nat} (h : n ≤ i) : isrt (n - i) i l = l := by
  rw [show n - i = 0 by omega]; rfl

/-- A row of keys so far: it can be filled up to all keys. -/
def okK (ks ys : List Int) : Prop := ∃ zs, (ys ++ zs).Perm ks
theorem okK.len {ks ys : List Int} (h : okK ks ys) : ys.length ≤ ks.length := by
  obtain ⟨zs, h⟩ := h
  have := h.length_eq
  simp at this; omega
/-- The entries that were seen. -/
def seenK (z : List ((Int × Sess) × Nat)) (seen : Array Nat) : List Int := (z.filter fun p => seen.contains p.2).map (·.1.1)
theorem seenK_nil {z : List ((Int × Sess) × Nat)} : seenK z #[] = [] := by simp [seenK]
theorem filter_one {z : List ((Int × Sess) × Nat)} (hn : (z.map (·.2)).Nodup) {p : (Int × Sess) × Nat} (hp : p ∈ z) {seen : Array Nat} (hs : p.2 ∉ seen) : (z.filter fun q => (seen.push p.2).contains q.2).Perm (p :: z.filter fun q => seen.contains q.2) := by
  induction z with
  | nil => cases hp
  | cons a z ih =>
    simp only [List.map_cons, List.nodup_cons] at hn
    rcases List.mem_cons.1 hp with e | e
    · subst e
      have hc : z.filter (fun q => (seen.push p.2).contains q.2) = z.filter (fun q => seen.contains q.2) := List.filter_congr fun q hq => by
        have : q.2 ≠ p.2 := fun h => hn.1 (List.mem_map.2 ⟨q, hq, h⟩)
        simp [this]
      have h1 : (seen.push p.2).contains p.2 = true := by simp
      have h2 : seen.contains p.2 = false := by simpa using hs
      simp only [List.filter_cons, h1, h2, if_true, Bool.false_eq_true, if_false, hc]
      exact .refl _
    · have hne : a.2 ≠ p.2 := fun h => hn.1 (List.mem_map.2 ⟨p, e, h.symm⟩)
      have h1 : (seen.push p.2).contains a.2 = seen.contains a.2 := by simp [hne]
      simp only [List.filter_cons, h1]
      cases seen.contains a.2 with
      | true => simp only [if_true]; exact (List.Perm.cons _ (ih hn.2 e)).trans (.swap _ _ _)
      | false => simp only [Bool.false_eq_true, if_false]; exact ih hn.2 e
theorem seenK_push {z : List ((Int × Sess) × Nat)} (hn : (z.map (·.2)).Nodup) {k : Int} {s : Sess} {y : Nat} (hp : ((k, s), y) ∈ z) {seen : Array Nat} (hs : y ∉ seen) {pre : List Int} (hpre : pre.Perm (seenK z seen)) : (pre ++ [k]).Perm (seenK z (seen.push y)) := by
  refine List.perm_append_comm.trans ?_
  have := (filter_one hn hp hs).map (·.1.1)
  exact (List.Perm.cons k hpre).trans this.symm
theorem seenK_ok {z : List ((Int × Sess) × Nat)} {seen : Array Nat} {pre ks : List Int} (hk : ks = z.map (·.1.1)) (hpre : pre.Perm (seenK z seen)) : okK ks pre := by
  refine ⟨(z.filter fun p => !seen.contains p.2).map (·.1.1), ?_⟩
  rw [hk]
  refine (hpre.append_right _).trans ?_
  unfold seenK
  rw [← List.map_append]
  exact (List.filter_append_perm _ _).map _
theorem seenK_all {z : List ((Int × Sess) × Nat)} {seen : Array Nat} (h : ∀ y ∈ z.map (·.2), y ∈ seen) : seenK z seen = z.map (·.1.1) := by
  unfold seenK
  rw [List.filter_eq_self.2 fun p hp => by simpa using h p.2 (List.mem_map.2 ⟨p, hp, rfl⟩)]
theorem zip_keys {m : M} {bs : List Nat} (h : bs.length = m.length) : keys m = (m.zip bs).map (·.1.1) := by
  unfold keys
  conv => lhs; rw [← Z.zip_fst h]
  rw [List.map_map]; rfl

def pairs (t : Tab) : List (Int × Int) := (sortL (keys t.m)).map fun k => (k, (Z.mval k Sess.z t.m).p)
theorem sort_len (m : M) : (sortL (keys m)).length = m.length := by
  have := (sortL_spec (keys m)).2.length_eq; simpa [keys] using this
theorem pairs_len (t : Tab) : (pairs t).length = t.m.length := by simp [pairs, sort_len]
def ss (t : Tab) (most : Int) : List (Int × Int) := if most ≤ 0 then [] else (pairs t).take most.toNat
def stopN (most : Int) (pre : List (Int × Int)) (_ : Int × Int) : Bool := Nat.beq (pre.length + 1) most.toNat
theorem ss_end {t : Tab} {most : Int} (h0 : ¬ most ≤ 0) (h : Z.fst (stopN most) [] (pairs t) = none) : ss t most = pairs t := by
  unfold ss
  rw [if_neg h0]
  have := Z.fst_len (α := Int × Int) (m := most.toNat) (suf := pairs t) (pre := [])
  rw [show Z.fst (fun p _ => Nat.beq (p.length + 1) most.toNat) [] (pairs t) = none from h] at this
  simp only [List.length_nil, Nat.zero_add, Nat.sub_zero, List.nil_append] at this
  split at this
  · rename_i hc
    rw [List.getElem?_eq_getElem (by omega)] at this
    cases this
  · rename_i hc
    exact List.take_of_length_le (by omega)
theorem ss_ret {t : Tab} {most : Int} (h0 : ¬ most ≤ 0) {pre : List (Int × Int)} {x : Int × Int} (h : Z.fst (stopN most) [] (pairs t) = some (pre, x)) : ss t most = pre ++ [x] := by
  unfold ss
  rw [if_neg h0]
  have := Z.fst_len (α := Int × Int) (m := most.toNat) (suf := pairs t) (pre := [])
  rw [show Z.fst (fun p _ => Nat.beq (p.length + 1) most.toNat) [] (pairs t) = some (pre, x) from h] at this
  simp only [List.length_nil, Nat.zero_add, Nat.sub_zero, List.nil_append] at this
  split at this
  · rename_i hc
    rw [List.getElem?_eq_getElem (by omega)] at this
    simp only [Option.map_some, Option.some.injEq, Prod.mk.injEq] at this
    obtain ⟨rfl, rfl⟩ := this
    have e : most.toNat = (most.toNat - 1) + 1 := by omega
    conv => lhs; rw [e]
    rw [List.take_add_one, List.getElem?_eq_getElem (by omega)]; rfl
  · cases this
theorem ss_nil {t : Tab} {most : Int} (h : most ≤ 0) : ss t most = [] := by unfold ss; rw [if_pos h]
/-- A variable that holds a slice of its own. -/
def SLp (b : Nat) (ys : List Int) : Z.SP := fun h => ∃ v, Z.sep [Z.cl b 42 [v], Z.Own 31 1 v ys.length (u64s ys)] h
abbrev VV := { p : Value × Value // p.1.oneCell' = true ∧ p.2.oneCell' = true }
def S2F (b6 b7 : Nat) (vx vy : Value) (pre : List (Int × Int)) : List Z.SP := [Z.cl b6 42 [vx], Z.cl b7 44 [vy], Z.Own 31 1 vx pre.length (u64s (pre.map (·.1))), Z.Own 3 1 vy pre.length (i64s (pre.map (·.2)))]
def S2 (b6 b7 : Nat) (pre : List (Int × Int)) : Z.SP := fun h => ∃ p : VV, Z.sep (S2F b6 b7 p.1.1 p.1.2 pre) h
theorem take_snoc {α : Type} {l : List α} {i : Nat} (h : i < l.length) : l.take i ++ [l[i]] = l.take (i + 1) := by
  rw [List.take_add_one, List.getElem?_eq_getElem h]; rfl
theorem take_drop_eq {α : Type} {l : List α} {i : Nat} (h : i < l.length) : l.take i ++ l[i] :: l.drop (i + 1) = l := by
  rw [← List.drop_eq_getElem_cons h, List.take_append_drop]
end Go.Proofs.Ytjilnmjjehkidaa
namespace Go.Proofs.Ytjilnmjjehkidaa
open Go Go.RowKit
def kAt (t : Tab) (i : Nat) : Int := (sortL (keys t.m)).getD i 0
def pAt (t : Tab) (i : Nat) : Int × Int := (kAt t i, (Z.mval (kAt t i) Sess.z t.m).p)
theorem pairs_get {t : Tab} {i : Nat} (h : i < t.m.length) : (pairs t)[i]? = some (pAt t i) := by
  have h' : i < (sortL (keys t.m)).length := by rw [sort_len]; exact h
  simp [pairs, pAt, kAt, List.getElem?_eq_getElem h', List.getD]
theorem pairs_at {t : Tab} {i : Nat} (h : i < t.m.length) : (pairs t).take i ++ pAt t i :: (pairs t).drop (i + 1) = pairs t := by
  have h' : i < (pairs t).length := by rw [pairs_len]; exact h
  have := pairs_get h
  rw [List.getElem?_eq_getElem h'] at this
  rw [← Option.some.inj this]; exact take_drop_eq h'
theorem pairs_snoc {t : Tab} {i : Nat} (h : i < t.m.length) : (pairs t).take i ++ [pAt t i] = (pairs t).take (i + 1) := by
  have h' : i < (pairs t).length := by rw [pairs_len]; exact h
  have := pairs_get h
  rw [List.getElem?_eq_getElem h'] at this
  rw [← Option.some.inj this]; exact take_snoc h'
theorem pairs_drop {t : Tab} {i : Nat} (h : i < t.m.length) : (pairs t).drop i = pAt t i :: (pairs t).drop (i + 1) := by
  have h' : i < (pairs t).length := by rw [pairs_len]; exact h
  have := pairs_get h
  rw [List.getElem?_eq_getElem h'] at this
  rw [← Option.some.inj this]; exact List.drop_eq_getElem_cons h'
section
variable {t : Tab} {stop : List (Int × Int) → Int × Int → Bool} {i : Nat}
theorem pairs_stop (h : i < t.m.length) (hf : Z.fst stop [] (pairs t) = Z.fst stop ((pairs t).take i) ((pairs t).drop i)) (hs : stop ((pairs t).take i) (pAt t i) = true) : Z.fst stop [] (pairs t) = some ((pairs t).take i, pAt t i) := by
  rw [pairs_drop h] at hf; exact Z.fst_stop hf hs
theorem pairs_go (h : i < t.m.length) (hf : Z.fst stop [] (pairs t) = Z.fst stop ((pairs t).take i) ((pairs t).drop i)) (hs : stop ((pairs t).take i) (pAt t i) = false) : Z.fst stop [] (pairs t) = Z.fst stop ((pairs t).take (i + 1)) ((pairs t).drop (i + 1)) := by
  rw [pairs_drop h] at hf
  rw [← pairs_snoc h]; exact Z.fst_go hf hs
theorem pairs_end (h : t.m.length ≤ i) (hf : Z.fst stop [] (pairs t) = Z.fst stop ((pairs t).take i) ((pairs t).drop i)) : Z.fst stop [] (pairs t) = none := by
  rw [List.drop_of_length_le (by rw [pairs_len]; exact h)] at hf; exact Z.fst_end hf
end
theorem pre_len {pre suf : List (Int × Int)} {x : Int × Int} {t : Tab} (h : pre ++ x :: suf = pairs t) : pre.length + 1 ≤ t.m.length := by
  have := congrArg List.length h
  rw [pairs_len] at this; simp at this; omega
end Go.Proofs.Ytjilnmjjehkidaa
