/- Rows: areas as they read. -/
import Derived.Test.YtleofndjeekalaaC3
namespace Go.Proofs.Ytleofndjeekalaa
open Go Go.RowKit
structure Span where
  lo : Int
  hi : Int
  deriving DecidableEq
def Span.c (s : Span) : List Value := [.int .u32 s.lo, .int .u32 s.hi]
def Span.z : Span := ⟨0, 0⟩
theorem Span.len (s : Span) : s.c.length = 2 := rfl
abbrev Area := List (List Span)
def inS (s : Span) (k : Int) : Bool := decide (s.lo ≤ k) && decide (k ≤ s.hi)
def hasS (s : List Span) (k : Int) : Bool := s.any fun x => inS x k
def hasA (a : Area) (c : Cell) : Bool := decide (0 ≤ c.l) && hasS (a.getD c.l.toNat []) c.k
abbrev nilS : Value := .slice none 0 0
def SlRo (w : World) (v : Value) (s : List Span) : Prop := ∃ p cap, v = .slice p s.length cap ∧ (0 < s.length → ∃ b o, p = some ⟨b, o, none⟩ ∧ Z.Ro w b o (s.flatMap Span.c))
def AreaRo (w : World) (v : Value) (a : Area) : Prop := ∃ p cap hs, v = .slice p a.length cap ∧ hs.length = a.length ∧ (0 < a.length → ∃ b o, p = some ⟨b, o, none⟩ ∧ Z.Ro w b o hs) ∧ ∀ i, SlRo w (hs.getD i nilS) (a.getD i [])
theorem SlRo.nil (w : World) : SlRo w nilS [] := ⟨none, 0, rfl, by simp⟩
theorem AreaRo.nil (w : World) (p : Option Addr) (cap : Nat) : AreaRo w (.slice p 0 cap) [] := ⟨p, cap, [], rfl, rfl, by simp, fun i => by simpa using SlRo.nil w⟩
theorem hasS_drop {s : List Span} {i : Nat} {k : Int} (h : i < s.length) : hasS (s.drop i) k = (inS (s.getD i Span.z) k || hasS (s.drop (i + 1)) k) := by
  unfold hasS
  conv => lhs; rw [List.drop_eq_getElem_cons h]
  rw [List.any_cons]
  simp [List.getElem?_eq_getElem h, List.getD]
theorem slc_span {s : List Span} {i : Nat} (h : i < s.length) : Z.slc (s.flatMap Span.c) (i * 2) 2 = some [.int .u32 (s.getD i Span.z).lo, .int .u32 (s.getD i Span.z).hi] := by
  have := Z.slc_flat Span.len (xs := s) (i := i) (x := s.getD i Span.z) [] (by simp [List.getElem?_eq_getElem h, List.getD])
  rw [List.append_nil] at this
  exact this
theorem get_hd {hs : List Value} {i : Nat} (h : i < hs.length) : hs[i]? = some (hs.getD i nilS) := by
  simp [List.getElem?_eq_getElem h, List.getD]
def inA (ver : VM) (a : Area) : List Int := ((sortC ver).filter (hasA a)).map (fV ver)
def outs (ver : VM) (a : Area) (i : Nat) : List Int := (((sortC ver).take i).filter (hasA a)).map (fV ver)
theorem outs_step {ver : VM} {a : Area} {i : Nat} (h : i < ver.length) : outs ver a (i + 1) = outs ver a i ++ (if hasA a (sAt ver i) = true then [fV ver (sAt ver i)] else []) := by
  have h' : i < (sortC ver).length := by rw [sortC_len]; exact h
  have e : sAt ver i = (sortC ver)[i] := by simp [sAt, List.getElem?_eq_getElem h', List.getD]
  unfold outs
  rw [List.take_add_one, List.getElem?_eq_getElem h', List.filter_append, List.map_append, e]
  congr 1
  by_cases hc : hasA a (sortC ver)[i] = true <;> simp [hc]
theorem outs_len (ver : VM) (a : Area) (i : Nat) : (outs ver a i).length ≤ i := by
  unfold outs
  simp only [List.length_map]
  exact Nat.le_trans (List.length_filter_le _ _) (by simp; omega)
theorem outs_end {ver : VM} {a : Area} {i : Nat} (h : ver.length ≤ i) : outs ver a i = inA ver a := by
  unfold outs inA
  rw [List.take_of_length_le (by rw [sortC_len]; exact h)]
theorem cells_eq (cl ck : Int) (c : Cell) (w : World) : (Op.eqFields 9999 #[Value.int .i64 cl, .int .u32 ck] #[Value.int .i64 c.l, .int .u32 c.k] [{ name := "Label", type := 3, offset := 0, embedded := false, tag := "", pkgPath := "", byteOffset := 0 }, { name := "Key", type := 34, offset := 1, embedded := false, tag := "", pkgPath := "", byteOffset := 8 }]).run Try.prog w = .ok (decide ((⟨cl, ck⟩ : Cell) = c)) w := cell_eqf ⟨cl, ck⟩ c 9998 w
end Go.Proofs.Ytleofndjeekalaa
