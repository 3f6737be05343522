/- A statement by tokens whose last operations follow one behind the other. -/
import Derived.Test.YtleofndjeekalaaZy
set_option linter.unusedSectionVars false
set_option linter.unusedSimpArgs false
set_option linter.unusedVariables false
namespace Go.Z
open Go Go.RowKit
section
variable {w0 : World} {n : Nat} {D : List Deferred} {E E' : List (Nat × Value)} {L L' R As : List SP} {P : Program} {ro : Option Nat} {Q : Exit → Act → World → Prop} {l0 l : List Oper}
theorem opK {o : Oper} {a : Act} {w : World} {X K K' : Act → World → Prop} (h : ∀ a w, K a w → K' a w) (hh : o.wpIn (FW ro) 0 P a w K (fun e a w => e = .normal ∧ X a w)) : o.wpIn (FW ro) 0 P a w K' Q := by
  unfold Oper.wpIn at *
  refine ⟨hh.1, ?_⟩
  have hh := hh.2
  generalize (o.semAt (FW ro).round a.eval).run P w = r at *
  cases r with
  | ok x w' =>
    cases x <;> simp only [Oper.uponIn] at hh ⊢ <;>
      first
        | exact h _ _ hh
        | exact ⟨hh.1, CallsIn.mono hh.2 (fun e w'' he => by cases e <;> first | exact h _ _ he | (obtain ⟨_, _, h4, _⟩ := he; cases h4) | (cases he.1))⟩
        | exact ⟨hh.1, RowsIn.mono hh.2 (fun _ _ he => h _ _ he)⟩
        | exact ⟨hh.1, RoundIn.mono hh.2 (fun e w'' he => by cases e <;> first | exact h _ _ he | (obtain ⟨_, _, h4, _⟩ := he; cases h4) | (cases he.1))⟩
  | halt x w' => cases x <;> simp only [Oper.uponIn] at hh ⊢ <;> first | exact hh | (cases hh.1)
theorem any_split {m : Nat} {X : Act → World → Prop} (hm : m ≤ l.length) (hord : ∀ j o, l[j]? = some o → ∀ e ∈ o.after, Region.binds .any e = true → e.on < j) (hw : ∀ t, m ≤ t → t < l.length → ∀ i, i < t → waitsB l l.length t i = true)
    (hg : ∀ j o, j < m → l[j]? = some o → ∀ p, o.guard = some p → p.1 < m) (hX : ∀ a w, X a w → wpListIn (FW ro) 0 P l.toArray Q (l.drop m) a w) :
    ∀ (f f' : Nat) (la lb : Array Bool) (a : Act) (w : World), la.size = l.length → lb.size = m → (∀ j, j < m → la.getD j false = lb.getD j false) → (∀ t, m ≤ t → t < l.length → la.getD t true = false) →
      (∀ j o, l[j]? = some o → la.getD j false = true → ∀ e ∈ o.after, Region.binds .any e = true → la.getD e.on false = true) → f + (l.length - m) ≤ f' →
      wpAnyIn (FW ro) 0 P .any (l.take m).toArray (fun e a w => e = .normal ∧ X a w) f lb a w → wpAnyIn (FW ro) 0 P .any l.toArray Q f' la a w := by
  have hun : ∀ (x : Array Bool) i, i < x.size → (x.getD i true = false ↔ x.getD i false = false) := fun x i h => by simp [h]
  have hget : ∀ i o, i < m → (((l.take m).toArray)[i]? = some o ↔ l[i]? = some o) := fun i o h => by simp [List.getElem?_take, h]
  have hfirst : ∀ (la : Array Bool), (¬ ∀ j, j < m → la.getD j false = true) → ∃ j, j < m ∧ la.getD j false = false ∧ ∀ i, i < j → la.getD i false = true := by
    intro la hna
    have : ∀ k, (∀ j, j < k → j < m → la.getD j false = true) ∨ ∃ j, j < m ∧ la.getD j false = false ∧ ∀ i, i < j → la.getD i false = true := by
      intro k
      induction k with
      | zero => left; intro j hj; omega
      | succ k ihk =>
        rcases ihk with h | h
        · by_cases hkm : k < m
          · cases hk : la.getD k false with
            | true => left; intro j hj hjm; rcases Nat.lt_or_ge j k with h' | h'
                      · exact h j h' hjm
                      · have : j = k := by omega
                        subst this; exact hk
            | false => right; exact ⟨k, hkm, hk, fun i hi => h i hi (by omega)⟩
          · left; intro j hj hjm; exact h j (by omega) hjm
        · exact .inr h
    rcases this m with h | h
    · exact absurd (fun j hj => h j hj hj) hna
    · exact h
  intro f
  induction f with
  | zero =>
    intro f' la lb a w hsa hsb hab htl hcl hf h
    by_cases hall : ∀ j, j < m → la.getD j false = true
    · exact tail_any (m := m) hord hw f' m la a w (Nat.le_refl _) hsa (fun j hj _ => hall j hj) htl (by omega) (hX a w h.2.2)
    · exfalso
      obtain ⟨j0, hj0, hj0f, hj0l⟩ := hfirst la hall
      have : j0 ∈ Region.ready .any (l.take m).toArray lb := by
        refine mem_ready.2 ⟨(hun lb j0 (by omega)).2 (by rw [← hab j0 hj0]; exact hj0f), l[j0]'(by omega), (hget _ _ hj0).2 (by simp), fun e he hb => ?_⟩
        have := hord j0 (l[j0]'(by omega)) (by simp) e he hb
        rw [← hab _ (by omega)]; exact hj0l _ this
      rw [h.1] at this; cases this
  | succ f ih =>
    intro f' la lb a w hsa hsb hab htl hcl hf h
    by_cases hall : ∀ j, j < m → la.getD j false = true
    · have hnil : Region.ready .any (l.take m).toArray lb = [] := by
        apply List.eq_nil_iff_forall_not_mem.2
        intro i hi
        obtain ⟨hiun, o, ho, _⟩ := mem_ready.1 hi
        have hlt : i < m := by have := (Array.getElem?_eq_some_iff.1 ho).1; simp at this; omega
        have h1 := (hun lb i (by omega)).1 hiun
        rw [← hab i hlt, hall i hlt] at h1; cases h1
      exact tail_any (m := m) hord hw f' m la a w (Nat.le_refl _) hsa (fun j hj _ => hall j hj) htl (by omega) (hX a w (h.1 hnil).2)
    · obtain ⟨j0, hj0, hj0f, hj0l⟩ := hfirst la hall
      have hr0 : j0 ∈ Region.ready .any l.toArray la := by
        refine mem_ready.2 ⟨(hun la j0 (by omega)).2 hj0f, l[j0]'(by omega), by simp [Nat.lt_of_lt_of_le hj0 hm], fun e he hb => ?_⟩
        exact hj0l _ (hord j0 (l[j0]'(by omega)) (by simp) e he hb)
      obtain ⟨f'', rfl⟩ : ∃ k, f' = k + 1 := ⟨f' - 1, by omega⟩
      refine ⟨fun h0 => (by rw [h0] at hr0; cases hr0), fun i hi => ?_⟩
      obtain ⟨hiun, o, ho, hiall⟩ := mem_ready.1 hi
      have ho' : l[i]? = some o := by simpa using ho
      have hilt : i < l.length := (List.getElem?_eq_some_iff.1 ho').1
      have him : i < m := by
        rcases Nat.lt_or_ge i m with h' | h'
        · exact h'
        · exfalso
          have := waitsB_listed hcl _ i j0 (hw i h' hilt j0 (by omega)) ⟨o, ho', hiall⟩
          rw [hj0f] at this; cases this
      have hi' : i ∈ Region.ready .any (l.take m).toArray lb := by
        refine mem_ready.2 ⟨(hun lb i (by omega)).2 (by rw [← hab i him]; exact (hun la i (by omega)).1 hiun), o, (hget _ _ him).2 ho', fun e he hb => ?_⟩
        have := hord i o ho' e he hb
        rw [← hab _ (by omega)]; exact hiall e he hb
      have h1 := h.2 i hi'
      unfold wpOpIn at h1 ⊢
      simp only [(hget i o him).2 ho', ho] at h1 ⊢
      have hyield : Region.wanted o (yielded (l.take m).toArray a.tmps) = Region.wanted o (yielded l.toArray a.tmps) := by
        unfold Region.wanted
        cases hgd : o.guard with
        | none => rfl
        | some p =>
          have hp := hg i o him ho' p hgd
          have : (List.take m l)[p.1]? = l[p.1]? := by simp [List.getElem?_take, hp]
          simp only [yielded, List.getElem?_toArray, this]
      rw [hyield] at h1
      have hstep : ∀ a w, wpAnyIn (FW ro) 0 P .any (l.take m).toArray (fun e a w => e = .normal ∧ X a w) f (lb.setIfInBounds i true) a w → wpAnyIn (FW ro) 0 P .any l.toArray Q f'' (la.setIfInBounds i true) a w := by
        intro a w h2
        refine ih f'' _ _ a w (by simpa using hsa) (by simpa using hsb) ?_ ?_ ?_ (by omega) h2
        · intro j hj
          by_cases hij : i = j
          · subst hij; simp [hsa, hsb, hilt, him]
          · rw [getD_set_ne false hij, getD_set_ne false hij]; exact hab j hj
        · intro t ht1 ht2
          rw [getD_set_ne true (by omega)]; exact htl t ht1 ht2
        · intro j oj hj hjl e he hb
          by_cases hij : i = j
          · subst hij
            rw [ho'] at hj; cases hj
            exact getD_set_true (hiall e he hb)
          · rw [getD_set_ne false hij] at hjl
            exact getD_set_true (hcl j oj hj hjl e he hb)
      by_cases hwt : Region.wanted o (yielded l.toArray a.tmps) = true
      · rw [if_pos hwt] at h1 ⊢; exact opK hstep h1
      · rw [if_neg hwt] at h1 ⊢; exact ⟨h1.1, hstep _ _ h1.2⟩
theorem j_tok_any {X : Act → World → Prop} (toks : List Tok) (chs : List Nat) (vals : (Nat → Value) → List Value) (hB : tokOK l toks chs = true) (hdn : (dstsOf l).all (Nat.blt · n) = true) (hvl : ∀ ρ, (vals ρ).length = l.length) (hup : UpOK l vals toks chs)
    (t : ∀ ρ, Takes L (pcs (filt (fun t => t.src.isNone) toks) ρ) R) (hH : TOps ro P w0 n D l E vals toks chs 0 l)
    (hfin : ∀ ρ, J w0 n D (heads l (vals ρ) E) (pcs (filt (fun t => t.dst.isNone) toks) ρ ++ R) (fun a w => (Exit.normal = .normal ∧ X a w))) (a : Act) (w : World) (he : EnvOK a n D E) (hs : St w0 L w) :
    wpAnyIn (FW ro) 0 P .any l.toArray (fun e a w => e = .normal ∧ X a w) l.length (Array.replicate l.length false) a { w with drawn := w.drawn + 1 } := by
  simp only [tokOK, Bool.and_eq_true] at hB
  obtain ⟨⟨⟨hnd, hok⟩, hord⟩, htk⟩ := hB
  refine any_tok (vals := vals) (toks := toks) (chs := chs) (E := E) (Fr := R) hnd ?_ ?_ ?_ ?_ hvl hup ?_ (fun ρ a w he hs => hfin ρ a w he hs) l.length _ a _ (fun _ => undef) (by simp) ?_ ?_
  · intro j o ho; exact List.all_eq_true.1 hok o (List.mem_of_getElem? ho)
  · intro j o ho e hem hb
    have hjl : j < l.length := (List.getElem?_eq_some_iff.1 ho).1
    have h1 := List.all_eq_true.1 hord j (by simpa using hjl)
    simp only [ho] at h1
    have h2 := List.all_eq_true.1 h1 e (by simpa using hem)
    simp only [binds', hb, Bool.not_true, Bool.false_or] at h2
    simpa [Nat.blt_eq] using h2
  · intro t ht
    have h1 := List.all_eq_true.1 htk t ht
    simp only [Bool.and_eq_true] at h1
    obtain ⟨⟨⟨⟨⟨g1, g2⟩, g3⟩, g4⟩, g5⟩, g6⟩ := h1
    refine ⟨fun i e => ?_, fun i e => ?_, fun i j e1 e2 => ?_, fun i hi => ?_⟩
    · rw [e] at g1 g3; exact ⟨by simpa [ltO, Nat.blt_eq] using g1, memB_iff.1 g3⟩
    · rw [e] at g2 g4; exact ⟨by simpa [ltO, Nat.blt_eq] using g2, memB_iff.1 g4⟩
    · rw [e1, e2] at g5
      simp only [Bool.and_eq_true, Bool.not_eq_true'] at g5
      exact ⟨fun h => (by rw [h, Nat.beq_refl] at g5; cases g5.1), g5.2⟩
    · have h2 := List.all_eq_true.1 g6 i hi
      simp only [Bool.and_eq_true] at h2
      exact ⟨fun s e => by rw [e] at h2; exact h2.1, fun s e => by rw [e] at h2; exact h2.2⟩
  · intro d hdm
    have := List.all_eq_true.1 hdn d hdm
    simpa [Nat.blt_eq] using this
  · intro j o ho
    have := tops_at hH ho
    rwa [Nat.zero_add] at this
  · refine ⟨by simp, fun j o _ h => ?_, he.size, he.defers, fun k v hk _ => he.get k v hk, fun j o d v _ _ _ h => ?_⟩
    · exfalso
      rcases Nat.lt_or_ge j l.length with h' | h' <;> simp [h'] at h
    · exfalso
      rcases Nat.lt_or_ge j l.length with h' | h' <;> simp [h'] at h
  · refine (hs.drew.takes (t (fun _ => undef))).imp fun _ H => ?_
    have : toks.filter (alive (Array.replicate l.length false)) = filt (fun t => t.src.isNone) toks := by
      rw [filt_eq]
      refine List.filter_congr fun t _ => ?_
      have hf : ∀ s, (Array.replicate l.length false).getD s false = false := fun s => by
        rcases Nat.lt_or_ge s l.length with h' | h' <;> simp [h']
      unfold alive
      cases t.src with
      | none => cases t.dst with
        | none => rfl
        | some j => simp only [hf]; rfl
      | some s => simp only [hf]; rfl
    rw [this]; exact H
def tailOK (l : List Oper) (m : Nat) : Bool :=
  ((List.range l.length).all fun j => match l[j]? with | some o => o.after.toList.all (fun e => !binds' e || Nat.blt e.on j) | none => true) &&
  ((List.range l.length).all fun t => Nat.blt t m || (List.range t).all fun i => waitsB l l.length t i) &&
  ((l.take m).all fun o => match o.guard with | some p => Nat.blt p.1 m | none => true)
/-- By tokens, the last operations one behind the other. -/
theorem j_drawTm {id : Nat} (m : Nat) {hd tl : List Oper} (toks : List Tok) (chs : List Nat) (vals : (Nat → Value) → List Value) (hm : P.follows .mixedOrders = true) (hsp : split2 m l = some (hd, tl)) (hT : tailOK l m = true) (hB : tokOK hd toks chs = true) (hdn : (dstsOf hd).all (Nat.blt · n) = true) (hvl : ∀ ρ, (vals ρ).length = hd.length) (hup : UpOK hd vals toks chs)
    (t : ∀ ρ, Takes L (pcs (filt (fun t => t.src.isNone) toks) ρ) R) (hH : TOps ro P w0 n D hd E vals toks chs 0 hd)
    (hfin : ∀ ρ, J w0 n D (heads hd (vals ρ) E) (pcs (filt (fun t => t.dst.isNone) toks) ρ ++ R) (O ro P l.toArray tl Q)) : J w0 n D E L (W ro P (.region id l.toArray true) Q) := fun a w he hs => by
  obtain ⟨hml, e1, e2⟩ := split2_spec hsp
  subst e1; subst e2
  simp only [tailOK, Bool.and_eq_true] at hT
  obtain ⟨⟨hord, hw⟩, hg⟩ := hT
  refine wpIn_region_any hm ?_
  have hsz : l.toArray.size = l.length := by simp
  rw [hsz]
  have hord' : ∀ j o, l[j]? = some o → ∀ e ∈ o.after, Region.binds .any e = true → e.on < j := by
    intro j o ho e hem hb
    have hjl : j < l.length := (List.getElem?_eq_some_iff.1 ho).1
    have h1 := List.all_eq_true.1 hord j (by simpa using hjl)
    simp only [ho] at h1
    have h2 := List.all_eq_true.1 h1 e (by simpa using hem)
    simp only [binds', hb, Bool.not_true, Bool.false_or] at h2
    simpa [Nat.blt_eq] using h2
  have key := j_tok_any (ro := ro) (E := E) (L := L) (R := R) (l := l.take m) toks chs vals hB hdn hvl hup t hH (X := fun a w => O ro P l.toArray (l.drop m) Q a w) (fun ρ a w he hs => ⟨rfl, hfin ρ a w he hs⟩) a w he hs
  refine any_split (m := m) (X := fun a w => O ro P l.toArray (l.drop m) Q a w) hml hord' ?_ ?_ (fun a w h => h) m l.length _ (Array.replicate m false) a _ (by simp) (by simp) ?_ ?_ ?_ (by omega) ?_
  · intro t ht1 ht2 i hi
    have h1 := List.all_eq_true.1 hw t (by simpa using ht2)
    have h2 : Nat.blt t m = false := by
      cases h : Nat.blt t m with
      | false => rfl
      | true => have : t < m := by simpa [Nat.blt_eq] using h
                omega
    rw [h2, Bool.false_or] at h1
    exact List.all_eq_true.1 h1 i (by simpa using hi)
  · intro j o hj ho p hp
    have h1 := List.all_eq_true.1 hg o (List.mem_of_getElem? (i := j) (by rw [List.getElem?_take, if_pos hj]; exact ho))
    rw [hp] at h1
    simpa [Nat.blt_eq] using h1
  · intro j hj; simp [hj, Nat.lt_of_lt_of_le hj hml]
  · intro t _ ht; simp [ht]
  · intro j o _ h
    exfalso
    rcases Nat.lt_or_ge j l.length with h' | h' <;> simp [h'] at h
  · have hlm : (l.take m).length = m := by simp; omega
    rw [hlm] at key; exact key
end
end Go.Z
