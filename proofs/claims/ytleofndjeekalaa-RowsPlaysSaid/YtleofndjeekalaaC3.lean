/- Rows: the pairs that are told. -/
import Derived.Test.YtleofndjeekalaaC2
import Derived.Test.YtleofndjeekalaaZy
namespace Go.Proofs.Ytleofndjeekalaa
open Go Go.RowKit
abbrev CI := Cell × Int
def pairsR (ver : VM) : List CI := (sortC ver).map fun c => (c, fV ver c)
theorem pairsR_len (ver : VM) : (pairsR ver).length = ver.length := by simp [pairsR, sortC_len]
def sAt (ver : VM) (i : Nat) : Cell := (sortC ver).getD i Cell.z
def qAt (ver : VM) (i : Nat) : CI := (sAt ver i, fV ver (sAt ver i))
def ssR (ver : VM) (most : Int) : List CI := if most ≤ 0 then [] else (pairsR ver).take most.toNat
def stopC (most : Int) (pre : List CI) (_ : CI) : Bool := Nat.beq (pre.length + 1) most.toNat
abbrev i64s (l : List Int) : List Value := l.map (Value.int .i64)
theorem slc_one (x : Value) (sp : List Value) : Z.slc ([x] ++ sp) 0 1 = some [x] := by
  rw [Z.slc_mk (by simp)]; simp
theorem slc_two (x y : Value) (sp : List Value) : Z.slc ([x, y] ++ sp) 0 2 = some [x, y] := by
  rw [Z.slc_mk (by simp)]; simp
theorem slc_cell {cs : List Cell} {i : Nat} (sp : List Value) (h : i < cs.length) : Z.slc (cs.flatMap Cell.c ++ sp) (i * 2) 2 = some [.int .i64 (cs.getD i Cell.z).l, .int .u32 (cs.getD i Cell.z).k] :=
  Z.slc_flat Cell.len sp (by simp [List.getElem?_eq_getElem h, List.getD])
section
variable {ver : VM} {i : Nat}
theorem pairsR_get (h : i < ver.length) : (pairsR ver)[i]? = some (qAt ver i) := by
  have h' : i < (sortC ver).length := by rw [sortC_len]; exact h
  simp [pairsR, qAt, sAt, List.getElem?_eq_getElem h', List.getD]
theorem pairsR_elt (h : i < ver.length) : (pairsR ver)[i]'(by rw [pairsR_len]; exact h) = qAt ver i := by
  have := pairsR_get h
  rw [List.getElem?_eq_getElem (by rw [pairsR_len]; exact h)] at this
  exact Option.some.inj this
theorem pairsR_at (h : i < ver.length) : (pairsR ver).take i ++ qAt ver i :: (pairsR ver).drop (i + 1) = pairsR ver := by
  rw [← pairsR_elt h, ← List.drop_eq_getElem_cons, List.take_append_drop]
theorem pairsR_snoc (h : i < ver.length) : (pairsR ver).take i ++ [qAt ver i] = (pairsR ver).take (i + 1) := by
  rw [← pairsR_elt h, List.take_add_one, List.getElem?_eq_getElem (by rw [pairsR_len]; exact h)]; rfl
theorem pairsR_drop (h : i < ver.length) : (pairsR ver).drop i = qAt ver i :: (pairsR ver).drop (i + 1) := by
  rw [← pairsR_elt h]; exact List.drop_eq_getElem_cons _
variable {stop : List CI → CI → Bool}
theorem pairsR_stop (h : i < ver.length) (hf : Z.fst stop [] (pairsR ver) = Z.fst stop ((pairsR ver).take i) ((pairsR ver).drop i)) (hs : stop ((pairsR ver).take i) (qAt ver i) = true) : Z.fst stop [] (pairsR ver) = some ((pairsR ver).take i, qAt ver i) := by
  rw [pairsR_drop h] at hf; exact Z.fst_stop hf hs
theorem pairsR_go (h : i < ver.length) (hf : Z.fst stop [] (pairsR ver) = Z.fst stop ((pairsR ver).take i) ((pairsR ver).drop i)) (hs : stop ((pairsR ver).take i) (qAt ver i) = false) : Z.fst stop [] (pairsR ver) = Z.fst stop ((pairsR ver).take (i + 1)) ((pairsR ver).drop (i + 1)) := by
  rw [pairsR_drop h] at hf
  rw [← pairsR_snoc h]; exact Z.fst_go hf hs
theorem pairsR_end (h : ver.length ≤ i) (hf : Z.fst stop [] (pairsR ver) = Z.fst stop ((pairsR ver).take i) ((pairsR ver).drop i)) : Z.fst stop [] (pairsR ver) = none := by
  rw [List.drop_of_length_le (by rw [pairsR_len]; exact h)] at hf; exact Z.fst_end hf
theorem preR_len {pre suf : List CI} {x : CI} (h : pre ++ x :: suf = pairsR ver) : pre.length + 1 ≤ ver.length := by
  have := congrArg List.length h
  rw [pairsR_len] at this; simp at this; omega
theorem ssR_nil {most : Int} (h : most ≤ 0) : ssR ver most = [] := by unfold ssR; rw [if_pos h]
theorem ssR_end {most : Int} (h0 : ¬ most ≤ 0) (h : Z.fst (stopC most) [] (pairsR ver) = none) : ssR ver most = pairsR ver := by
  unfold ssR
  rw [if_neg h0]
  have := Z.fst_len (α := CI) (m := most.toNat) (suf := pairsR ver) (pre := [])
  rw [show Z.fst (fun p _ => Nat.beq (p.length + 1) most.toNat) [] (pairsR ver) = none from h] at this
  simp only [List.length_nil, Nat.zero_add, Nat.sub_zero, List.nil_append] at this
  split at this
  · rename_i hc
    rw [List.getElem?_eq_getElem (by omega)] at this
    cases this
  · rename_i hc
    exact List.take_of_length_le (by omega)
theorem ssR_ret {most : Int} (h0 : ¬ most ≤ 0) {pre : List CI} {x : CI} (h : Z.fst (stopC most) [] (pairsR ver) = some (pre, x)) : ssR ver most = pre ++ [x] := by
  unfold ssR
  rw [if_neg h0]
  have := Z.fst_len (α := CI) (m := most.toNat) (suf := pairsR ver) (pre := [])
  rw [show Z.fst (fun p _ => Nat.beq (p.length + 1) most.toNat) [] (pairsR ver) = some (pre, x) from h] at this
  simp only [List.length_nil, Nat.zero_add, Nat.sub_zero, List.nil_append] at this
  split at this
  · rename_i hc
    rw [List.getElem?_eq_getElem (by omega)] at this
    simp only [Option.map_some, Option.some.injEq, Prod.mk.injEq] at this
    obtain ⟨rfl, rfl⟩ := this
    have e : most.toNat = (most.toNat - 1) + 1 := by omega
    conv => lhs; rw [e]
    rw [List.take_add_one, List.getElem?_eq_getElem (by omega)]; rfl
  · cases this
end
abbrev VV := { p : Value × Value // p.1.oneCell' = true ∧ p.2.oneCell' = true }
def S2F (b6 b7 : Nat) (vx vy : Value) (pre : List CI) : List Z.SP := [Z.cl b6 30 [vx], Z.cl b7 48 [vy], Z.Own 36 2 vx pre.length ((pre.map (·.1)).flatMap Cell.c), Z.Own 3 1 vy pre.length (i64s (pre.map (·.2)))]
def S2 (b6 b7 : Nat) (pre : List CI) : Z.SP := fun h => ∃ p : VV, Z.sep (S2F b6 b7 p.1.1 p.1.2 pre) h
end Go.Proofs.Ytleofndjeekalaa
