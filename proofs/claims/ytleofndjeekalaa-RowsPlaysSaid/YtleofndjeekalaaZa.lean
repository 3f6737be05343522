/- From pieces to the kit's words for a world that has only grown. -/
import Derived.Test.YtleofndjeekalaaZ9
import Derived.Sort.Grow
import Derived.Deep.Draws
namespace Go.Z
open Go Go.RowKit Go.Sort

theorem grow_of {W w' : World} {L : List SP} (h : St W L w') : ∃ q os, w' = grow (W.drewN q) os := by
  have hb := h.1.below
  have hd := h.1.drawn
  refine ⟨w'.drawn - W.drawn, (w'.heap.toList.drop W.heap.size).toArray, ?_⟩
  have e1 : w'.heap = W.heap ++ (w'.heap.toList.drop W.heap.size).toArray := by
    apply Array.ext_getElem?
    intro i
    rw [Array.getElem?_append]
    split
    · rename_i hi; exact hb.block i hi
    · rename_i hi
      simp only [List.getElem?_toArray, List.getElem?_drop, Array.getElem?_toList]
      congr 1; omega
  have e2 : W.drawn + (w'.drawn - W.drawn) = w'.drawn := by omega
  unfold grow World.drewN
  obtain ⟨hp, tp, dr, os, out⟩ := w'
  have h1 := hb.os; have h2 := hb.tape; have h3 := hb.output
  simp only at e1 e2 h1 h2 h3 ⊢
  rw [← e1, e2, ← h1, ← h2, ← h3]

/-! ### keys that are structs -/
theorem findAsking_run {κ υ : Type} [DecidableEq κ] {P : Program} {kt : TypeId} {kenc : κ → Value} {venc : υ → Value} (heq : ∀ a b w, (Op.equal kt (kenc a) (kenc b)).run P w = .ok (decide (a = b)) w) {k : κ} {w : World} {m : List (κ × υ)} :
    ∀ {i : Nat} {bs : List Nat}, bs.length = m.length → (Instr.findAsking kt (kenc k) (ents kenc venc m bs) i).run P w = .ok ((mfnd k m i).map fun p => (p.1, venc p.2)) w := by
  induction m with
  | nil => intro i bs _; rfl
  | cons p m ih =>
    obtain ⟨k', v'⟩ := p; intro i bs hb
    cases bs with
    | nil => simp at hb
    | cons b bs =>
      simp only [ents, Instr.findAsking, Sem.run_bind, heq, Result.andThen, mfnd]
      by_cases e : k = k'
      · simp [e]
      · simp only [e, decide_false, Bool.false_eq_true, if_false]
        exact ih (by simpa using hb)
theorem keyOK_struct {κ : Type} [DecidableEq κ] {P : Program} {kt : TypeId} {kenc : κ → Value} {fs : Array Field} (h : P.underlying kt = some (.struct fs)) (hc : ∀ e k w, (Instr.checkKey e 10000 kt (kenc k)).run P w = .ok () w)
    (heq : ∀ a b w, (Op.equal kt (kenc a) (kenc b)).run P w = .ok (decide (a = b)) w) (hs : ∀ k, Instr.sameBits 10000 (kenc k) (kenc k) = true) : KeyOK P kt kenc where
  check := hc
  same := hs
  find := fun venc k m bs w hb => by
    unfold Instr.findKey
    simp only [Sem.run_bind, run_underlying h, Result.andThen]
    cases m with
    | nil => rfl
    | cons p m =>
      cases bs with
      | nil => simp at hb
      | cons b bs =>
        have : Instr.findNow (.struct fs) (kenc k) (ents kenc venc (p :: m) (b :: bs)) 0 = none := by
          simp only [ents, Instr.findNow, Instr.sameNow]
        rw [this]
        exact findAsking_run heq hb

section
variable {κ υ : Type} [DecidableEq κ] {kenc : κ → Value} {venc : υ → Value} {m : List (κ × υ)}
variable {w0 : World} {n : Nat} {D : List Deferred} {E E' : List (Nat × Value)} {L L' R As : List SP} {P : Program} {ro : Option Nat} {Q : Exit → Act → World → Prop} {l0 l : List Oper}
theorem mdel_bok {k : κ} {bs : List Nat} {clock j : Nat} {x : υ} (hb : BOK m bs clock) (h : mfnd k m 0 = some (j, x)) : BOK (mdel k m) (bs.eraseIdx j) clock := by
  obtain ⟨h1, h2, h3⟩ := hb
  obtain ⟨_, g1, g2, _⟩ := mdel_some (kenc := fun _ => .nilIface) (venc := fun _ => .nilIface) h h1
  refine ⟨?_, h2.sublist (List.eraseIdx_sublist _ _), fun y hy => h3 y ((List.eraseIdx_sublist _ _).subset hy)⟩
  rw [List.length_eraseIdx, if_pos (by omega)]; omega
theorem run_delete {T kt vt R' : TypeId} {b : Nat} {k : κ} {w : World} (hT : P.underlying T = some (.map kt vt)) (K : KeyOK P kt kenc) (hs : St w0 (MapP b kenc venc m :: R) w) {tys : Array TypeId} (ht : tys[0]? = some T) :
    ∃ w', (Builtin.delete_ tys R' #[.map (some b), kenc k]).run P w = .ok (.tuple #[]) w' ∧ St w0 (MapP b kenc venc (mdel k m) :: R) w' := by
  obtain ⟨bs, clock, hk, hb, hs'⟩ := hs.mapP
  have hfind := K.find venc k m bs w hk.1
  cases hf : mfnd k m 0 with
  | none =>
    rw [hf] at hfind
    refine ⟨{ w with heap := w.heap.setIfInBounds b (.map (ents kenc venc m bs).toArray clock) }, ?_, ?_⟩
    · unfold Builtin.delete_
      simp [ht, run_underlying hT, Result.andThen, getObj_of hb, K.check, hfind, setObj_of hb]
    · rw [mdel_none hf]
      exact (hs'.setB (o' := .map (ents kenc venc m bs).toArray clock) .here).imp fun _ H => mapP_close hk H
  | some p =>
    obtain ⟨j, x⟩ := p
    rw [hf] at hfind
    obtain ⟨_, _, hj, h4⟩ := mdel_some (kenc := kenc) (venc := venc) hf hk.1
    refine ⟨{ w with heap := w.heap.setIfInBounds b (.map ((ents kenc venc m bs).toArray.eraseIdxIfInBounds j) clock) }, ?_, ?_⟩
    · unfold Builtin.delete_
      simp [ht, run_underlying hT, Result.andThen, getObj_of hb, K.check, hfind, setObj_of hb]
    · refine (hs'.setB (o' := .map ((ents kenc venc m bs).toArray.eraseIdxIfInBounds j) clock) .here).imp fun _ H => mapP_close (mdel_bok hk hf) ?_
      simp only [Nat.sub_zero] at h4
      rw [MapB, ← h4]
      have e : (ents kenc venc m bs).toArray.eraseIdxIfInBounds j = ((ents kenc venc m bs).eraseIdx j).toArray := by
        simp [List.eraseIdxIfInBounds_toArray]
      rw [← e]; exact H
theorem s_delete0 {T kt vt R' : TypeId} {x y : Operand} {pos : String} {af : Array Edge} {g : Option (Nat × Bool)} {b : Nat} {k : κ} (hx : ev E x = some (.map (some b))) (hy : ev E y = some (kenc k)) (hT : P.underlying T = some (.map kt vt)) (K : KeyOK P kt kenc)
    (t : Take L (MapP b kenc venc m) R) (kk : J w0 n D E (MapP b kenc venc (mdel k m) :: R) (O ro P l0.toArray l Q)) (hw : wantE l0 E g = some true := by rfl) :
    J w0 n D E L (O ro P l0.toArray (⟨none, .call ⟨.builtin .delete, #[x, y], #[T, kt]⟩, R', pos, af, g⟩ :: l) Q) := fun a w he hs => by
  refine O_step rfl hw he ?_
  obtain ⟨w', hr, hs'⟩ := run_delete (R' := R') (k := k) (tys := #[T, kt]) hT K (hs.take t) rfl
  simp [execOp, resolve, invoke, builtin, he.ev hx, he.ev hy, hr, Result.andThen]
  exact kk _ _ he hs'
theorem s_delete {T kt vt R' : TypeId} {x y : Operand} {pos : String} {af : Array Edge} {g : Option (Nat × Bool)} {b : Nat} {k : κ} {d : Nat} (hx : ev E x = some (.map (some b))) (hy : ev E y = some (kenc k)) (hT : P.underlying T = some (.map kt vt)) (K : KeyOK P kt kenc)
    (t : Take L (MapP b kenc venc m) R) (kk : J w0 n D ((d, .tuple #[]) :: E) (MapP b kenc venc (mdel k m) :: R) (O ro P l0.toArray l Q)) (hd : Nat.blt d n = true := by rfl) (hw : wantE l0 E g = some true := by rfl) :
    J w0 n D E L (O ro P l0.toArray (⟨some d, .call ⟨.builtin .delete, #[x, y], #[T, kt]⟩, R', pos, af, g⟩ :: l) Q) := fun a w he hs => by
  refine O_step rfl hw he ?_
  obtain ⟨w', hr, hs'⟩ := run_delete (R' := R') (k := k) (tys := #[T, kt]) hT K (hs.take t) rfl
  simp [execOp, resolve, invoke, builtin, he.ev hx, he.ev hy, hr, Result.andThen]
  exact kk _ _ (he.put hd _) hs'
end
end Go.Z
