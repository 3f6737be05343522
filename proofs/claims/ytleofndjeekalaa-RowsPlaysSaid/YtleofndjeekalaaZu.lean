/- append of a slice that the call owns to one that it owns. -/
import Derived.Test.YtleofndjeekalaaZs
namespace Go.Z
open Go Go.RowKit
section
variable {w0 : World} {n : Nat} {D : List Deferred} {E E' : List (Nat × Value)} {L L' R As : List SP} {P : Program} {ro : Option Nat} {Q : Exit → Act → World → Prop} {l0 l : List Oper}
theorem s_appendO {x y : Operand} {S T Ty : TypeId} {ti : TypeInfo} {k m m2 d by' : Nat} {z v v2 : Value} {c c2 : List Value} {R2 : List SP} {pos : String} {af : Array Edge} {g : Option (Nat × Bool)}
    (hx : ev E x = some v) (hy : ev E y = some v2) (t : Take L (Own T k v m c) R) (t2 : Take R (Own T k v2 m2 c2) R2) (hu : P.underlying S = some (.slice T)) (hi : ∀ w, (typeInfo T).run P w = .ok ti w) (hk : ti.size = k) (hk0 : 0 < k) (hz : ti.zero = some z) (hzc : z.cells.size = k)
    (hby : ti.bytes = by') (h1 : ones c2 = true) (hb : (m + m2) * by' ≤ 140737488355328) (hmax : m + m2 ≤ 9223372036854775807)
    (kk : ∀ v', v'.oneCell' = true → J w0 n D ((d, v') :: E) (Own T k v' (m + m2) (c ++ c2) :: Own T k v2 m2 c2 :: R2) (O ro P l0.toArray l Q)) (hd : Nat.blt d n = true := by rfl) (hw : wantE l0 E g = some true := by rfl) :
    J w0 n D E L (O ro P l0.toArray (⟨some d, .call ⟨.builtin .append, #[x, y], #[S, S]⟩, Ty, pos, af, g⟩ :: l) Q) := by
  refine J.take t (J.own_one .here fun ho => ?_)
  refine J.take (.there t2) (J.own (fun e1 e2 e3 => ?_) (fun b cap sp e1 e2 e3 => ?_))
  · subst e1; subst e2; subst e3
    refine s_append0 hx hy .here hu hi hk hk0 ?_ hd hw
    refine J.own_nil T k ?_
    have := kk v ho
    rw [Nat.add_zero, List.append_nil] at this
    exact this.st fun _ H => H.imp fun _ H => sep_swap H
  · rcases Nat.eq_zero_or_pos m2 with h0 | h0
    · subst h0
      have hc : c2 = [] := List.eq_nil_of_length_eq_zero (by omega)
      subst hc
      refine s_append0 (cap2 := cap) (p := some ⟨b, 0, none⟩) hx (hy.trans (by rw [e1])) (.there .here) hu hi hk hk0 ?_ hd hw
      refine j_own (k := k) (m := 0) (c := []) (cap := cap) (sp := sp) .here (by simp) e3 ?_
      rw [← e1]
      have := kk v ho
      rw [Nat.add_zero, List.append_nil] at this
      exact this.st fun _ H => H.imp fun _ H => sep_swap H
    · have hsl : slc (c2 ++ sp) 0 (m2 * k) = some c2 := by
        rw [slc_mk (by simp; omega)]; simp [← e2]
      refine s_append (cap2 := cap) hx (hy.trans (by rw [e1])) (.there .here) (reads_cl .here hsl) hu hi hk hz hzc hby e2 h1 (.inl h0) hb hmax (fun v' hv' => ?_) hd hw
      refine j_own (.there .here) e2 e3 ?_
      rw [← e1]
      exact (kk v' hv').st fun _ H => H.imp fun _ H => sep_swap H
end
end Go.Z
