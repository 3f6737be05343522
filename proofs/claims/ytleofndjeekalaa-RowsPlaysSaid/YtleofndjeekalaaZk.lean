/- Nil maps walked; what a walk over a map has seen; calls whose contract is told at the world they begin in. -/
import Derived.Test.YtleofndjeekalaaZv
set_option linter.unusedSectionVars false
namespace Go.Z
open Go Go.RowKit Go.Instr
section
variable {w0 : World} {n : Nat} {D : List Deferred} {E E' : List (Nat × Value)} {L L' R As : List SP} {P : Program} {ro : Option Nat} {Q : Exit → Act → World → Prop} {l0 l : List Oper}
theorem s_range0 {T kt vt R' : TypeId} {x : Operand} {d : Nat} {pos : String} {af : Array Edge} {g : Option (Nat × Bool)} (hx : ev E x = some (.map none)) (hT : P.underlying T = some (.map kt vt))
    (kk : ∀ r, J w0 n D ((d, .pointer (some ⟨r, 0, none⟩)) :: E) (pt r (.mapIter none 0 #[] 0) :: L) (O ro P l0.toArray l Q)) (hd : Nat.blt d n = true := by rfl) (hw : wantE l0 E g = some true := by rfl) :
    J w0 n D E L (O ro P l0.toArray (⟨some d, .range T x, R', pos, af, g⟩ :: l) Q) := fun a w he hs => by
  refine O_step rfl hw he ?_
  simp only [execOp, he.ev hx]
  unfold Instr.range
  simp only [Sem.run_bind, run_underlying hT, Result.andThen, Sem.run_pure, run_newObj_alloc]
  exact kk _ _ _ (he.put hd _) (hs.alloc _)
theorem s_next0 {x : Operand} {T : TypeId} {d r : Nat} {pos : String} {af : Array Edge} {g : Option (Nat × Bool)} (hx : ev E x = some (.pointer (some ⟨r, 0, none⟩))) (t : Take L (pt r (.mapIter none 0 #[] 0)) R)
    (k0 : J w0 n D ((d, .tuple #[.bool false]) :: E) L (O ro P l0.toArray l Q)) (hd : Nat.blt d n = true := by rfl) (hw : wantE l0 E g = some true := by rfl) :
    J w0 n D E L (O ro P l0.toArray (⟨some d, .next x false, T, pos, af, g⟩ :: l) Q) := fun a w he hs => by
  refine O_step rfl hw he ?_
  simp only [execOp, he.ev hx, Sem.run_bind]
  have hr := (hs.take t).get_pt.1
  have : (Instr.next (.pointer (some ⟨r, 0, none⟩)) false T).run P w = .ok (.tuple #[.bool false]) w := by
    unfold Instr.next
    simp [getObj, Sem.run, hr]
  rw [this]
  exact k0 _ _ (he.put hd _) hs
/-- A call that reads what lies: its contract holds at the very world that it begins in. -/
theorem st_up {w w' : World} {Qs : List SP} (H : St w0 L w) (H' : St w (Qs ++ []) w') : St w0 (Qs ++ L) w' := by
  obtain ⟨hb, h, hh, hsep⟩ := H
  obtain ⟨hb', h', hh', hsep'⟩ := H'
  rw [List.append_nil] at hsep'
  have hlt : ∀ k o, h k = some o → k < w.heap.size := fun k o hk => by
    have := (hh k o hk).2
    rcases Nat.lt_or_ge k w.heap.size with h1 | h1
    · exact h1
    · rw [Array.getElem?_eq_none h1] at this; cases this
  have hd : Dsj h' h := fun k => by
    cases e : h' k with
    | none => exact .inl rfl
    | some o =>
      right
      cases e2 : h k with
      | none => rfl
      | some o2 => have h1 := hlt k o2 e2; have h2 := (hh' k o e).1; omega
  refine ⟨⟨?_, Nat.le_trans hb.drawn hb'.drawn⟩, Uni h' h, ?_, ?_⟩
  · have hsz := hb.below.size
    exact ⟨hb'.below.os.trans hb.below.os, hb'.below.tape.trans hb.below.tape, hb'.below.output.trans hb.below.output, Nat.le_trans hsz hb'.below.size, fun j hj => (hb'.below.block j (Nat.lt_of_lt_of_le hj hsz)).trans (hb.below.block j hj)⟩
  · intro k o hk
    unfold Uni at hk
    split at hk
    · rename_i x hx; cases hk
      obtain ⟨g1, g2⟩ := hh' k _ hx
      exact ⟨Nat.le_trans hb.below.size g1, g2⟩
    · obtain ⟨g1, g2⟩ := hh k o hk
      exact ⟨g1, (hb'.below.block k (hlt k o hk)).trans g2⟩
  · have : sep (sep Qs :: L) (Uni h' h) := ⟨h', h, hd, Sub.uni_l _ _, Sub.uni_r hd, hsep', hsep⟩
    exact sep_flat this
theorem s_callL {x : Operand} {args : List Operand} {tys : Array TypeId} {T : TypeId} {f : FuncId} {fs vs cs as : List Value} {d : Nat} {pos : String} {af : Array Edge} {g : Option (Nat × Bool)} {Post : Value → List SP → Prop}
    (hx : ev E x = some (.func (.func f) fs.toArray cs.toArray)) (hv : evs E args = some vs) (ha : fs ++ vs ++ cs = as) (hf : IsFn P f) (hc : ∀ w, St w0 L w → Fn P w f as [] Post)
    (k : ∀ v Qs, Post v Qs → J w0 n D ((d, v) :: E) (Qs ++ L) (O ro P l0.toArray l Q)) (hd : Nat.blt d n = true := by rfl) (hw : wantE l0 E g = some true := by rfl) :
    J w0 n D E L (O ro P l0.toArray (⟨some d, .call ⟨.value x, args.toArray, tys⟩, T, pos, af, g⟩ :: l) Q) := fun a w he hs => by
  refine O_step rfl hw he ?_
  rw [run_call he hx hv ha hf]
  refine ⟨fun h => (by cases h), callsFW.2 ((hc w hs [] w (St.init w)).mono ?_)⟩
  rintro e w' ⟨v, Qs, rfl, hp, hs'⟩
  exact k v Qs hp _ _ (he.put hd v) (st_up hs hs')
theorem s_callLD {x : Operand} {args : List Operand} {tys : Array TypeId} {T : TypeId} {f : FuncId} {fs vs cs as : List Value} {d : Nat} {pos : String} {af : Array Edge} {g : Option (Nat × Bool)} {v : Value}
    (hx : ev E x = some (.func (.func f) fs.toArray cs.toArray)) (hv : evs E args = some vs) (ha : fs ++ vs ++ cs = as) (hf : IsFn P f) (hc : ∀ w, St w0 L w → FnD P w f as [] v [])
    (k : J w0 n D ((d, v) :: E) L (O ro P l0.toArray l Q)) (hd : Nat.blt d n = true := by rfl) (hw : wantE l0 E g = some true := by rfl) :
    J w0 n D E L (O ro P l0.toArray (⟨some d, .call ⟨.value x, args.toArray, tys⟩, T, pos, af, g⟩ :: l) Q) :=
  s_callL hx hv ha hf (fun w hs => (hc w hs).fn) (fun u q ⟨h1, h2⟩ => by subst h1; subst h2; exact k) hd hw
theorem ro_of_cl {b o k : Nat} {T : TypeId} {c vs : List Value} {w : World} (H : St w0 L w) (t : Take L (cl b T c) R) (h : slc c o k = some vs) : Ro w b o vs := by
  have hg := H.getc t
  refine ⟨?_, fun j v hj => ?_⟩
  · rcases Nat.lt_or_ge b w.heap.size with h' | h'
    · exact h'
    · rw [Array.getElem?_eq_none h'] at hg; cases hg
  · rw [cell_of_block hg]; exact slc_get h hj
theorem Ro.up {b o : Nat} {vs : List Value} {w : World} (h : Ro w0 b o vs) (H : St w0 L w) : Ro w b o vs :=
  ⟨Nat.lt_of_lt_of_le h.1 H.below.size, fun j v hj => h.cell H hj⟩
end
section
variable {κ υ : Type} [DecidableEq κ]
def okG (ks ys : List κ) : Prop := ∃ zs, (ys ++ zs).Perm ks
theorem okG.len {ks ys : List κ} (h : okG ks ys) : ys.length ≤ ks.length := by
  obtain ⟨zs, h⟩ := h
  have := h.length_eq
  simp at this; omega
def seenG (z : List ((κ × υ) × Nat)) (seen : Array Nat) : List κ := (z.filter fun p => seen.contains p.2).map (·.1.1)
theorem seenG_nil {z : List ((κ × υ) × Nat)} : seenG z #[] = [] := by simp [seenG]
theorem filter_oneG {z : List ((κ × υ) × Nat)} (hn : (z.map (·.2)).Nodup) {p : (κ × υ) × Nat} (hp : p ∈ z) {seen : Array Nat} (hs : p.2 ∉ seen) : (z.filter fun q => (seen.push p.2).contains q.2).Perm (p :: z.filter fun q => seen.contains q.2) := by
  induction z with
  | nil => cases hp
  | cons a z ih =>
    simp only [List.map_cons, List.nodup_cons] at hn
    rcases List.mem_cons.1 hp with e | e
    · subst e
      have hc : z.filter (fun q => (seen.push p.2).contains q.2) = z.filter (fun q => seen.contains q.2) := List.filter_congr fun q hq => by
        have : q.2 ≠ p.2 := fun h => hn.1 (List.mem_map.2 ⟨q, hq, h⟩)
        simp [this]
      have h1 : (seen.push p.2).contains p.2 = true := by simp
      have h2 : seen.contains p.2 = false := by simpa using hs
      simp only [List.filter_cons, h1, h2, if_true, Bool.false_eq_true, if_false, hc]
      exact .refl _
    · have hne : a.2 ≠ p.2 := fun h => hn.1 (List.mem_map.2 ⟨p, e, h.symm⟩)
      have h1 : (seen.push p.2).contains a.2 = seen.contains a.2 := by simp [hne]
      simp only [List.filter_cons, h1]
      cases seen.contains a.2 with
      | true => simp only [if_true]; exact (List.Perm.cons _ (ih hn.2 e)).trans (.swap _ _ _)
      | false => simp only [Bool.false_eq_true, if_false]; exact ih hn.2 e
theorem seenG_push {z : List ((κ × υ) × Nat)} (hn : (z.map (·.2)).Nodup) {k : κ} {s : υ} {y : Nat} (hp : ((k, s), y) ∈ z) {seen : Array Nat} (hs : y ∉ seen) {pre : List κ} (hpre : pre.Perm (seenG z seen)) : (pre ++ [k]).Perm (seenG z (seen.push y)) := by
  refine List.perm_append_comm.trans ?_
  have := (filter_oneG hn hp hs).map (·.1.1)
  exact (List.Perm.cons k hpre).trans this.symm
theorem seenG_ok {z : List ((κ × υ) × Nat)} {seen : Array Nat} {pre ks : List κ} (hk : ks = z.map (·.1.1)) (hpre : pre.Perm (seenG z seen)) : okG ks pre := by
  refine ⟨(z.filter fun p => !seen.contains p.2).map (·.1.1), ?_⟩
  rw [hk]
  refine (hpre.append_right _).trans ?_
  unfold seenG
  rw [← List.map_append]
  exact (List.filter_append_perm _ _).map _
theorem seenG_all {z : List ((κ × υ) × Nat)} {seen : Array Nat} (h : ∀ y ∈ z.map (·.2), y ∈ seen) : seenG z seen = z.map (·.1.1) := by
  unfold seenG
  rw [List.filter_eq_self.2 fun p hp => by simpa using h p.2 (List.mem_map.2 ⟨p, hp, rfl⟩)]
theorem zip_ks {m : List (κ × υ)} {bs : List Nat} (h : bs.length = m.length) : ks m = (m.zip bs).map (·.1.1) := by
  conv => lhs; rw [← zip_fst h]
  rw [ks, List.map_map]; rfl
end
end Go.Z
