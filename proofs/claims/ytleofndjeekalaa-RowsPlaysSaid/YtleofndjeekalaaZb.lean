/- Maps: an entry laid and then filled ('m[k] = v' in a row of assignments), and maps that may be nil. -/
import Derived.Test.YtleofndjeekalaaZa
namespace Go.Z
open Go Go.RowKit Go.Instr

section
variable {κ υ : Type} [DecidableEq κ] {kenc : κ → Value} {venc : υ → Value} {m : List (κ × υ)}
variable {w0 : World} {n : Nat} {D : List Deferred} {E E' : List (Nat × Value)} {L L' R As : List SP} {P : Program} {ro : Option Nat} {Q : Exit → Act → World → Prop} {l0 l : List Oper}

/-- The stamp of a key's entry: its own, or the next. -/
def mborn (k : κ) (m : List (κ × υ)) (bs : List Nat) (clock : Nat) : Nat := match mfnd k m 0 with
  | some (j, _) => bs.getD j 0
  | none => clock
/-- What a map holds behind 'mapEntry'. -/
def ment (k : κ) (z : υ) (m : List (κ × υ)) : List (κ × υ) := match mfnd k m 0 with
  | some _ => m
  | none => m ++ [(k, z)]
def mbs (k : κ) (m : List (κ × υ)) (bs : List Nat) (clock : Nat) : List Nat := match mfnd k m 0 with
  | some _ => bs
  | none => bs ++ [clock]
def mclk (k : κ) (m : List (κ × υ)) (clock : Nat) : Nat := match mfnd k m 0 with
  | some _ => clock
  | none => clock + 1
def mval (k : κ) (z : υ) (m : List (κ × υ)) : υ := match mget k m with
  | some v => v
  | none => z
theorem modify_key {kenc : κ → Value} {venc : υ → Value} {k : κ} {w : υ} {m : List (κ × υ)} : ∀ {i j : Nat} {bs : List Nat}, mfnd k m i = some (j, w) → bs.length = m.length →
    (ents kenc venc m bs).modify (j - i) (fun e => { e with key := kenc k }) = ents kenc venc m bs := by
  induction m with
  | nil => intro i j bs h; simp [mfnd] at h
  | cons p m ih =>
    obtain ⟨k', v'⟩ := p; intro i j bs h hb
    cases bs with
    | nil => simp at hb
    | cons b bs =>
      simp only [mfnd] at h
      split at h
      · rename_i hk
        obtain ⟨rfl, rfl⟩ := Prod.mk.inj (Option.some.inj h)
        subst hk
        simp [ents]
      · have hij : i + 1 ≤ j := (mput_some (kenc := kenc) (venc := venc) (v := w) h (bs := bs) (by simpa using hb)).1
        have e : j - i = (j - (i + 1)) + 1 := by omega
        rw [e]
        simp only [ents, List.modify_succ_cons, ih h (bs := bs) (by simpa using hb)]
theorem run_mapEntry {T kt vt : TypeId} {b clock : Nat} {bs : List Nat} {k : κ} {z : υ} {w : World} (hT : P.underlying T = some (.map kt vt)) (K : KeyOK P kt kenc) (hz : ∀ w, (zeroValue vt).run P w = .ok (venc z) w) (hk : BOK m bs clock) (hs : St w0 (MapB b kenc venc m bs clock :: R) w) :
    ∃ w', (Instr.mapEntry T (.map (some b)) (kenc k)).run P w = .ok (.tuple #[venc (mval k z m), goInt (mborn k m bs clock)]) w' ∧ St w0 (MapB b kenc venc (ment k z m) (mbs k m bs clock) (mclk k m clock) :: R) w' := by
  have hb := hs.get_pt.1
  have hfind := K.find venc k m bs w hk.1
  cases hf : mfnd k m 0 with
  | none =>
    rw [hf] at hfind
    refine ⟨{ w with heap := w.heap.setIfInBounds b (.map ((ents kenc venc m bs).toArray.push { key := kenc k, val := venc z, born := clock }) (clock + 1)) }, ?_, ?_⟩
    · unfold Instr.mapEntry
      simp only [Sem.run_bind, run_underlying hT, Result.andThen, getObj_of hb, K.check, hfind, Option.map_none, hz, setObj_of hb, Sem.run_pure]
      simp only [mval, mget_fnd (i := 0), hf, Option.map_none, mborn]
    · have := hs.setB (o' := .map ((ents kenc venc m bs).toArray.push { key := kenc k, val := venc z, born := clock }) (clock + 1)) .here
      simp only [MapB, ment, mbs, mclk, hf]
      rw [ents_snoc hk.1]
      simpa using this
  | some p =>
    obtain ⟨j, x⟩ := p
    rw [hf] at hfind
    obtain ⟨_, h2, h3, _⟩ := mput_some (kenc := kenc) (venc := venc) (v := x) hf hk.1
    simp only [Nat.sub_zero] at h3
    obtain ⟨y, hy⟩ := hk.get h3
    have hent : (ents kenc venc m bs)[j]? = some { key := kenc k, val := venc x, born := y } := by rw [ents_get hk.1, h3, hy]; rfl
    refine ⟨{ w with heap := w.heap.setIfInBounds b (.map ((ents kenc venc m bs).toArray.modify j fun e => { e with key := kenc k }) clock) }, ?_, ?_⟩
    · unfold Instr.mapEntry
      simp only [Sem.run_bind, run_underlying hT, Result.andThen, getObj_of hb, K.check, hfind, Option.map_some, List.getElem?_toArray, hent, Option.getD_some, run_keySame K, setObj_of hb, Sem.run_pure]
      simp only [mval, mget_fnd (i := 0), hf, Option.map_some, mborn, List.getD_eq_getElem?_getD, hy, Option.getD_some]
    · have := hs.setB (o' := .map ((ents kenc venc m bs).toArray.modify j fun e => { e with key := kenc k }) clock) .here
      simp only [MapB, ment, mbs, mclk, hf]
      have e := modify_key (kenc := kenc) (venc := venc) hf hk.1
      simp only [Nat.sub_zero] at e
      have e2 : (ents kenc venc m bs).toArray.modify j (fun e => { e with key := kenc k }) = ((ents kenc venc m bs).modify j fun e => { e with key := kenc k }).toArray := by
        simp [List.modify_toArray]
      rw [e2, e] at this ⊢; exact this
theorem find_born_idx {l : List MapEntry} : ∀ {j : Nat} {e : MapEntry}, (l.map (·.born)).Nodup → l[j]? = some e → l.findIdx? (fun x => (x.born : Int) == (e.born : Int)) = some j := by
  induction l with
  | nil => intro j e _ h; simp at h
  | cons x l ih =>
    intro j e hn h
    simp only [List.map_cons, List.nodup_cons] at hn
    cases j with
    | zero => simp at h; subst h; simp [List.findIdx?_cons]
    | succ j =>
      simp only [List.getElem?_cons_succ] at h
      have hne : x.born ≠ e.born := fun hc => hn.1 (List.mem_map.2 ⟨e, List.mem_of_getElem? h, hc.symm⟩)
      have hb : ((x.born : Int) == (e.born : Int)) = false := by simp; omega
      rw [List.findIdx?_cons, hb, ih hn.2 h]
      rfl
theorem modify_val {kenc : κ → Value} {venc : υ → Value} {k : κ} {v w : υ} {m : List (κ × υ)} : ∀ {i j : Nat} {bs : List Nat}, mfnd k m i = some (j, w) → bs.length = m.length →
    (ents kenc venc m bs).modify (j - i) (fun e => { e with val := venc v }) = ents kenc venc (mput k v m) bs := by
  induction m with
  | nil => intro i j bs h; simp [mfnd] at h
  | cons p m ih =>
    obtain ⟨k', v'⟩ := p; intro i j bs h hb
    cases bs with
    | nil => simp at hb
    | cons b bs =>
      simp only [mfnd] at h
      split at h
      · rename_i hk
        obtain ⟨rfl, rfl⟩ := Prod.mk.inj (Option.some.inj h)
        subst hk
        simp [ents, mput]
      · rename_i hk
        have hij : i + 1 ≤ j := (mput_some (kenc := kenc) (venc := venc) (v := w) h (bs := bs) (by simpa using hb)).1
        have e : j - i = (j - (i + 1)) + 1 := by omega
        rw [e]
        simp only [ents, mput, if_neg hk, List.modify_succ_cons, ih h (bs := bs) (by simpa using hb)]
theorem mfnd_snoc {k : κ} {z : υ} {m : List (κ × υ)} : ∀ {i : Nat}, mfnd k m i = none → mfnd k (m ++ [(k, z)]) i = some (i + m.length, z) := by
  induction m with
  | nil => intro i _; simp [mfnd]
  | cons p m ih =>
    obtain ⟨k', v'⟩ := p; intro i h
    simp only [mfnd] at h
    split at h
    · cases h
    · rename_i hk
      simp only [List.cons_append, mfnd, if_neg hk, ih h, List.length_cons]
      congr 2; omega
theorem mput_snoc {k : κ} {z v : υ} {m : List (κ × υ)} : ∀ {i : Nat}, mfnd k m i = none → mput k v (m ++ [(k, z)]) = mput k v m := by
  induction m with
  | nil => intro i _; simp [mput]
  | cons p m ih =>
    obtain ⟨k', v'⟩ := p; intro i h
    simp only [mfnd] at h
    split at h
    · cases h
    · rename_i hk
      simp only [List.cons_append, mput, if_neg hk, ih h]
theorem ment_bok {k : κ} {z : υ} {bs : List Nat} {clock : Nat} (hk : BOK m bs clock) : BOK (ment k z m) (mbs k m bs clock) (mclk k m clock) := by
  unfold ment mbs mclk
  cases hf : mfnd k m 0 with
  | some p => exact hk
  | none => have := mput_bok' (v := z) hk hf; rwa [mput_none hf] at this
theorem run_entryStore {T : TypeId} {b clock : Nat} {bs : List Nat} {k : κ} {z v : υ} {w : World} (hk : BOK m bs clock) (hs : St w0 (MapB b kenc venc (ment k z m) (mbs k m bs clock) (mclk k m clock) :: R) w) :
    ∃ w', (Instr.entryStore T (.map (some b)) (goInt (mborn k m bs clock)) (venc v)).run P w = .ok () w' ∧ St w0 (MapB b kenc venc (mput k v m) (mbs k m bs clock) (mclk k m clock) :: R) w' ∧ BOK (mput k v m) (mbs k m bs clock) (mclk k m clock) := by
  have hb := hs.get_pt.1
  have hbk := ment_bok (k := k) (z := z) hk
  obtain ⟨j, x, hj, hyj⟩ : ∃ j x, mfnd k (ment k z m) 0 = some (j, x) ∧ (mbs k m bs clock)[j]? = some (mborn k m bs clock) := by
    cases hf : mfnd k m 0 with
    | some p =>
      obtain ⟨j, x⟩ := p
      have h3 := (mput_some (kenc := kenc) (venc := venc) (v := x) hf hk.1).2.2.1
      simp only [Nat.sub_zero] at h3
      obtain ⟨y, hy⟩ := hk.get h3
      exact ⟨j, x, by simp only [ment, hf], by simp only [mbs, mborn, hf, List.getD_eq_getElem?_getD, hy, Option.getD_some]⟩
    | none =>
      refine ⟨m.length, z, by simp only [ment, hf]; rw [mfnd_snoc hf]; simp, ?_⟩
      simp only [mbs, mborn, hf]
      rw [List.getElem?_append_right (by have := hk.1; omega)]
      simp [hk.1]
  have hput : mput k v (ment k z m) = mput k v m := by
    unfold ment
    cases hf : mfnd k m 0 with
    | some p => rfl
    | none => exact mput_snoc hf
  have h3 := (mput_some (kenc := kenc) (venc := venc) (v := x) hj hbk.1).2.2.1
  simp only [Nat.sub_zero] at h3
  have hent : (ents kenc venc (ment k z m) (mbs k m bs clock))[j]? = some { key := kenc k, val := venc x, born := mborn k m bs clock } := by rw [ents_get hbk.1, h3, hyj]; rfl
  have hfi := find_born_idx (by rw [ents_born hbk.1]; exact hbk.2.1) hent
  have hmv := modify_val (kenc := kenc) (venc := venc) (v := v) hj hbk.1
  simp only [Nat.sub_zero] at hmv
  refine ⟨{ w with heap := w.heap.setIfInBounds b (.map ((ents kenc venc (ment k z m) (mbs k m bs clock)).toArray.modify j fun e => { e with val := venc v }) (mclk k m clock)) }, ?_, ?_, ?_⟩
  · unfold Instr.entryStore
    simp only [Sem.run_bind, getObj_of hb, Result.andThen]
    have ha : (asInt (goInt (mborn k m bs clock))).run P w = .ok (mborn k m bs clock : Int) w := by simp [goInt, asInt, asIntOf]
    rw [ha]
    simp only [List.findIdx?_toArray, hfi]
    exact setObj_of hb
  · have := hs.setB (o' := .map ((ents kenc venc (ment k z m) (mbs k m bs clock)).toArray.modify j fun e => { e with val := venc v }) (mclk k m clock)) .here
    have e2 : (ents kenc venc (ment k z m) (mbs k m bs clock)).toArray.modify j (fun e => { e with val := venc v }) = ((ents kenc venc (ment k z m) (mbs k m bs clock)).modify j fun e => { e with val := venc v }).toArray := by
      simp [List.modify_toArray]
    rw [e2, hmv, hput] at this
    rw [e2, hmv, hput]
    exact this
  · have := mput_bok (v := v) hbk hj
    rwa [hput] at this
theorem s_mapEntry {T kt vt R' : TypeId} {x y : Operand} {d : Nat} {pos : String} {af : Array Edge} {g : Option (Nat × Bool)} {b clock : Nat} {bs : List Nat} {k : κ} {z : υ} (hx : ev E x = some (.map (some b))) (hy : ev E y = some (kenc k)) (hT : P.underlying T = some (.map kt vt)) (K : KeyOK P kt kenc) (hz : ∀ w, (zeroValue vt).run P w = .ok (venc z) w) (hk : BOK m bs clock)
    (t : Take L (MapB b kenc venc m bs clock) R) (kk : J w0 n D ((d, .tuple #[venc (mval k z m), goInt (mborn k m bs clock)]) :: E) (MapB b kenc venc (ment k z m) (mbs k m bs clock) (mclk k m clock) :: R) (O ro P l0.toArray l Q))
    (hd : Nat.blt d n = true := by rfl) (hw : wantE l0 E g = some true := by rfl) :
    J w0 n D E L (O ro P l0.toArray (⟨some d, .mapEntry T x y, R', pos, af, g⟩ :: l) Q) := fun a w he hs => by
  refine O_step rfl hw he ?_
  obtain ⟨w', hr, hs'⟩ := run_mapEntry (k := k) (z := z) hT K hz hk (hs.take t)
  simp only [execOp, he.ev hx, he.ev hy, Sem.run_bind, hr, Result.andThen, Sem.run_pure]
  exact kk _ _ (he.put hd _) hs'
theorem s_entryStore {T R' : TypeId} {x s y : Operand} {pos : String} {af : Array Edge} {g : Option (Nat × Bool)} {b clock : Nat} {bs : List Nat} {k : κ} {z v : υ} (hx : ev E x = some (.map (some b))) (hst : ev E s = some (goInt (mborn k m bs clock))) (hy : ev E y = some (venc v)) (hk : BOK m bs clock)
    (t : Take L (MapB b kenc venc (ment k z m) (mbs k m bs clock) (mclk k m clock)) R) (kk : BOK (mput k v m) (mbs k m bs clock) (mclk k m clock) → J w0 n D E (MapB b kenc venc (mput k v m) (mbs k m bs clock) (mclk k m clock) :: R) (O ro P l0.toArray l Q))
    (hw : wantE l0 E g = some true := by rfl) :
    J w0 n D E L (O ro P l0.toArray (⟨none, .entryStore T x s y, R', pos, af, g⟩ :: l) Q) := fun a w he hs => by
  refine O_step rfl hw he ?_
  obtain ⟨w', hr, hs', hb'⟩ := run_entryStore (P := P) (T := T) (v := v) hk (hs.take t)
  simp only [execOp, he.ev hx, he.ev hst, he.ev hy, Sem.run_bind, hr, Result.andThen, Sem.run_pure]
  exact kk hb' _ _ he hs'
section
variable {S : List SP} {E1 : List (Nat × Value)} {ls : List (List SP)}
theorem hk_mapEntry {T kt vt R' : TypeId} {x y : Operand} {d : Nat} {pos : String} {af : Array Edge} {g : Option (Nat × Bool)} {b clock j : Nat} {bs : List Nat} {k : κ} {z : υ} {L L' : List SP} (hL : phO ls j = some L) (hx : ev E1 x = some (.map (some b))) (hy : ev E1 y = some (kenc k)) (hT : P.underlying T = some (.map kt vt)) (K : KeyOK P kt kenc) (hz : ∀ w, (zeroValue vt).run P w = .ok (venc z) w) (hk : BOK m bs clock)
    (u : Upd L (MapB b kenc venc m bs clock) (MapB b kenc venc (ment k z m) (mbs k m bs clock) (mclk k m clock)) L') (hL' : phO ls (j + 1) = some L') (hw : wantE l0 E1 g = some true := by rfl) :
    HK P w0 n D l0 E1 S (phs ls) ⟨some d, .mapEntry T x y, R', pos, af, g⟩ (.tuple #[venc (mval k z m), goInt (mborn k m bs clock)]) (.ch j) := by
  have hL := phs_of hL; subst hL
  exact .inl ⟨hw, fun a w he hs => by
    obtain ⟨R, t1, t2⟩ := u.takes
    obtain ⟨w', hr, hs'⟩ := run_mapEntry (k := k) (z := z) hT K hz hk (hs.take t1)
    simp only [execOp, he.ev hx, he.ev hy, Sem.run_bind, hr, Result.andThen, Sem.run_pure]
    exact ⟨rfl, by rw [phs_of hL']; exact hs'.imp fun _ H => t2.unsep H⟩⟩
theorem hk_entryStore {T R' : TypeId} {x s y : Operand} {pos : String} {af : Array Edge} {g : Option (Nat × Bool)} {b clock j : Nat} {bs : List Nat} {k : κ} {z v : υ} {L L' : List SP} (hL : phO ls j = some L) (hx : ev E1 x = some (.map (some b))) (hst : ev E1 s = some (goInt (mborn k m bs clock))) (hy : ev E1 y = some (venc v)) (hk : BOK m bs clock)
    (u : Upd L (MapB b kenc venc (ment k z m) (mbs k m bs clock) (mclk k m clock)) (MapB b kenc venc (mput k v m) (mbs k m bs clock) (mclk k m clock)) L') (hL' : phO ls (j + 1) = some L') (hw : wantE l0 E1 g = some true := by rfl) :
    HK P w0 n D l0 E1 S (phs ls) ⟨none, .entryStore T x s y, R', pos, af, g⟩ undef (.ch j) := by
  have hL := phs_of hL; subst hL
  exact .inl ⟨hw, fun a w he hs => by
    obtain ⟨R, t1, t2⟩ := u.takes
    obtain ⟨w', hr, hs', _⟩ := run_entryStore (P := P) (T := T) (v := v) hk (hs.take t1)
    simp only [execOp, he.ev hx, he.ev hst, he.ev hy, Sem.run_bind, hr, Result.andThen, Sem.run_pure]
    exact ⟨rfl, by rw [phs_of hL']; exact hs'.imp fun _ H => t2.unsep H⟩⟩
end
end
end Go.Z
