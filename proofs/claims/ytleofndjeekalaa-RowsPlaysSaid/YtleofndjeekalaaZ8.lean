/- Maps, in the words of pieces. -/
import Derived.Test.YtleofndjeekalaaZ7
import Derived.Maps.RangeRun
import Derived.Laws.StructEq
set_option linter.unusedSectionVars false
namespace Go.Z
open Go Go.RowKit Go.Instr

section maps
variable {κ υ : Type} [DecidableEq κ]
def mget (k : κ) : List (κ × υ) → Option υ
  | [] => none
  | (k', v) :: m => if k = k' then some v else mget k m
def mput (k : κ) (v : υ) : List (κ × υ) → List (κ × υ)
  | [] => [(k, v)]
  | (k', v') :: m => if k = k' then (k, v) :: m else (k', v') :: mput k v m
def mdel (k : κ) : List (κ × υ) → List (κ × υ)
  | [] => []
  | (k', v') :: m => if k = k' then m else (k', v') :: mdel k m
def mfnd (k : κ) : List (κ × υ) → Nat → Option (Nat × υ)
  | [], _ => none
  | (k', v) :: m, i => if k = k' then some (i, v) else mfnd k m (i + 1)
/-- The entries of a map. -/
def ents (kenc : κ → Value) (venc : υ → Value) : List (κ × υ) → List Nat → List MapEntry
  | (k, v) :: m, b :: bs => { key := kenc k, val := venc v, born := b } :: ents kenc venc m bs
  | _, _ => []

theorem mget_fnd {k : κ} {m : List (κ × υ)} : ∀ {i : Nat}, mget k m = (mfnd k m i).map (·.2) := by
  induction m with
  | nil => intro i; rfl
  | cons p m ih => obtain ⟨k', v⟩ := p; intro i; simp only [mget, mfnd]; split
                   · rfl
                   · exact ih
theorem ents_len {kenc : κ → Value} {venc : υ → Value} {m : List (κ × υ)} : ∀ {bs : List Nat}, bs.length = m.length → (ents kenc venc m bs).length = m.length := by
  induction m with
  | nil => intro bs _; rfl
  | cons p m ih => obtain ⟨k', v⟩ := p; intro bs h; cases bs with
    | nil => simp at h
    | cons b bs => simp only [ents, List.length_cons]; rw [ih (by simpa using h)]
theorem ents_get {kenc : κ → Value} {venc : υ → Value} {m : List (κ × υ)} : ∀ {bs : List Nat} {i : Nat}, bs.length = m.length → (ents kenc venc m bs)[i]? = (m[i]?).bind fun p => (bs[i]?).map fun b => { key := kenc p.1, val := venc p.2, born := b } := by
  induction m with
  | nil => intro bs i _; simp [ents]
  | cons p m ih => obtain ⟨k', v⟩ := p; intro bs i h; cases bs with
    | nil => simp at h
    | cons b bs => cases i with
      | zero => simp [ents]
      | succ i => simp only [ents, List.getElem?_cons_succ]; exact ih (by simpa using h)
theorem ents_snoc {kenc : κ → Value} {venc : υ → Value} {k : κ} {v : υ} {b : Nat} {m : List (κ × υ)} : ∀ {bs : List Nat}, bs.length = m.length → ents kenc venc (m ++ [(k, v)]) (bs ++ [b]) = ents kenc venc m bs ++ [{ key := kenc k, val := venc v, born := b }] := by
  induction m with
  | nil => intro bs h; cases bs with | nil => rfl | cons => simp at h
  | cons p m ih => obtain ⟨k', v'⟩ := p; intro bs h; cases bs with
    | nil => simp at h
    | cons b' bs => simp only [List.cons_append, ents]; rw [ih (by simpa using h)]
theorem mput_none {k : κ} {v : υ} {m : List (κ × υ)} : ∀ {i : Nat}, mfnd k m i = none → mput k v m = m ++ [(k, v)] := by
  induction m with
  | nil => intro i _; rfl
  | cons p m ih => obtain ⟨k', v'⟩ := p; intro i h; simp only [mfnd] at h; split at h
                   · cases h
                   · rename_i hk; simp only [mput, hk, if_false, List.cons_append]; rw [ih h]
theorem mdel_none {k : κ} {m : List (κ × υ)} : ∀ {i : Nat}, mfnd k m i = none → mdel k m = m := by
  induction m with
  | nil => intro i _; rfl
  | cons p m ih => obtain ⟨k', v'⟩ := p; intro i h; simp only [mfnd] at h; split at h
                   · cases h
                   · rename_i hk; simp only [mdel, hk, if_false]; rw [ih h]
theorem mput_some {kenc : κ → Value} {venc : υ → Value} {k : κ} {v w : υ} {m : List (κ × υ)} : ∀ {i j : Nat} {bs : List Nat}, mfnd k m i = some (j, w) → bs.length = m.length →
    i ≤ j ∧ (mput k v m).length = m.length ∧ m[j - i]? = some (k, w) ∧ (ents kenc venc m bs).modify (j - i) (fun e => { e with key := kenc k, val := venc v }) = ents kenc venc (mput k v m) bs := by
  induction m with
  | nil => intro i j bs h; simp [mfnd] at h
  | cons p m ih =>
    obtain ⟨k', v'⟩ := p; intro i j bs h hb
    cases bs with
    | nil => simp at hb
    | cons b bs =>
      simp only [mfnd] at h
      split at h
      · rename_i hk
        obtain ⟨rfl, rfl⟩ := Prod.mk.inj (Option.some.inj h)
        subst hk
        simp [mput, ents]
      · rename_i hk
        obtain ⟨h1, h2, h3, h4⟩ := ih h (bs := bs) (by simpa using hb)
        have e : j - i = (j - (i + 1)) + 1 := by omega
        refine ⟨by omega, by simp [mput, hk, h2], by rw [e]; simpa using h3, ?_⟩
        rw [e]
        simp only [mput, hk, if_false, ents, List.modify_succ_cons, h4]
theorem mdel_some {kenc : κ → Value} {venc : υ → Value} {k : κ} {w : υ} {m : List (κ × υ)} : ∀ {i j : Nat} {bs : List Nat}, mfnd k m i = some (j, w) → bs.length = m.length →
    i ≤ j ∧ (mdel k m).length + 1 = m.length ∧ j - i < m.length ∧ (ents kenc venc m bs).eraseIdx (j - i) = ents kenc venc (mdel k m) (bs.eraseIdx (j - i)) := by
  induction m with
  | nil => intro i j bs h; simp [mfnd] at h
  | cons p m ih =>
    obtain ⟨k', v'⟩ := p; intro i j bs h hb
    cases bs with
    | nil => simp at hb
    | cons b bs =>
      simp only [mfnd] at h
      split at h
      · rename_i hk
        obtain ⟨rfl, rfl⟩ := Prod.mk.inj (Option.some.inj h)
        simp [mdel, hk, ents]
      · rename_i hk
        obtain ⟨h1, h2, h3, h4⟩ := ih h (bs := bs) (by simpa using hb)
        have e : j - i = (j - (i + 1)) + 1 := by omega
        refine ⟨by omega, by simp [mdel, hk]; omega, by rw [e]; simp; omega, ?_⟩
        rw [e]
        simp only [mdel, hk, if_false, ents, List.eraseIdx_cons_succ, h4]

/-- What a map's key type does. -/
structure KeyOK (P : Program) (kt : TypeId) (kenc : κ → Value) : Prop where
  check : ∀ e k w, (checkKey e 10000 kt (kenc k)).run P w = .ok () w
  find : ∀ {υ : Type} (venc : υ → Value) (k : κ) (m : List (κ × υ)) (bs : List Nat) (w : World), bs.length = m.length → (findKey kt (kenc k) (ents kenc venc m bs)).run P w = .ok ((mfnd k m 0).map fun p => (p.1, venc p.2)) w
  same : ∀ k, sameBits 10000 (kenc k) (kenc k) = true

theorem findNow_int {ik : IntKind} {venc : υ → Value} {k : Int} {m : List (Int × υ)} : ∀ {i : Nat} {bs : List Nat}, bs.length = m.length → findNow (.int ik) (.int ik k) (ents (Value.int ik) venc m bs) i = some ((mfnd k m i).map fun p => (p.1, venc p.2)) := by
  induction m with
  | nil => intro i bs _; rfl
  | cons p m ih =>
    obtain ⟨k', v'⟩ := p; intro i bs hb
    cases bs with
    | nil => simp at hb
    | cons b bs =>
      simp only [ents, findNow, sameNow, if_true, mfnd]
      by_cases e : k = k'
      · simp [e]
      · have : (k == k') = false := by simp [e]
        simp only [this, e, if_false]
        exact ih (by simpa using hb)
theorem keyOK_int {P : Program} {kt : TypeId} {ik : IntKind} (h : P.underlying kt = some (.int ik)) : KeyOK P kt (Value.int ik) where
  check := fun e k w => by
    unfold checkKey
    simp [run_underlying h, Result.andThen]
  find := fun venc k m bs w hb => by
    unfold findKey
    simp only [Sem.run_bind, run_underlying h, Result.andThen]
    rw [findNow_int hb]
    rfl
  same := fun k => by unfold sameBits; simp

/-- A map that holds m. -/
def MapB (b : Nat) (kenc : κ → Value) (venc : υ → Value) (m : List (κ × υ)) (bs : List Nat) (clock : Nat) : SP := pt b (.map (ents kenc venc m bs).toArray clock)
def BOK (m : List (κ × υ)) (bs : List Nat) (clock : Nat) : Prop := bs.length = m.length ∧ bs.Nodup ∧ ∀ x ∈ bs, x < clock
def MapP (b : Nat) (kenc : κ → Value) (venc : υ → Value) (m : List (κ × υ)) : SP := ex fun bs => ex fun clock => wh (BOK m bs clock) (MapB b kenc venc m bs clock)
end maps

section
variable {κ υ : Type} [DecidableEq κ] {kenc : κ → Value} {venc : υ → Value} {m : List (κ × υ)}
variable {w0 : World} {n : Nat} {D : List Deferred} {E E' : List (Nat × Value)} {L L' R As : List SP} {LL : Array Nat → List SP} {A' : SP} {P : Program} {ro : Option Nat} {Q : Exit → Act → World → Prop} {l0 l : List Oper}

theorem mapP_open {b : Nat} {h : Hp} (H : sep (MapP b kenc venc m :: R) h) : ∃ bs clock, BOK m bs clock ∧ sep (MapB b kenc venc m bs clock :: R) h := by
  obtain ⟨bs, H⟩ := sep_ex.1 H
  obtain ⟨clock, H⟩ := sep_ex.1 H
  obtain ⟨hb, H⟩ := sep_wh.1 H
  exact ⟨bs, clock, hb, H⟩
theorem mapP_close {b : Nat} {bs : List Nat} {clock : Nat} {h : Hp} (hb : BOK m bs clock) (H : sep (MapB b kenc venc m bs clock :: R) h) : sep (MapP b kenc venc m :: R) h :=
  sep_ex.2 ⟨bs, sep_ex.2 ⟨clock, sep_wh.2 ⟨hb, H⟩⟩⟩
theorem St.mapP {b : Nat} {w : World} (H : St w0 (MapP b kenc venc m :: R) w) : ∃ bs clock, BOK m bs clock ∧ w.heap[b]? = some (.map (ents kenc venc m bs).toArray clock) ∧ St w0 (MapB b kenc venc m bs clock :: R) w := by
  obtain ⟨hb, h, hh, H⟩ := H
  obtain ⟨bs, clock, hk, H⟩ := mapP_open H
  have hs : St w0 (MapB b kenc venc m bs clock :: R) w := ⟨hb, h, hh, H⟩
  exact ⟨bs, clock, hk, hs.get_pt.1, hs⟩
theorem J.mapP_open {b : Nat} {G : Act → World → Prop} (t : Take L (MapP b kenc venc m) R) (h : ∀ bs clock, BOK m bs clock → J w0 n D E (MapB b kenc venc m bs clock :: R) G) : J w0 n D E L G := fun a w he hs => by
  obtain ⟨bs, clock, hk, _, hs'⟩ := (hs.take t).mapP
  exact h bs clock hk a w he hs'
theorem J.mapP_close {b : Nat} {bs : List Nat} {clock : Nat} {G : Act → World → Prop} (t : Take L (MapB b kenc venc m bs clock) R) (hk : BOK m bs clock) (h : J w0 n D E (MapP b kenc venc m :: R) G) : J w0 n D E L G :=
  h.st fun _ H => (H.take t).imp fun _ H' => Z.mapP_close hk H'

theorem s_makeMap {T R' : TypeId} {d : Nat} {pos : String} {af : Array Edge} {g : Option (Nat × Bool)} (kenc : κ → Value) (venc : υ → Value) (kk : ∀ b, J w0 n D ((d, .map (some b)) :: E) (MapP b kenc venc [] :: L) (O ro P l0.toArray l Q))
    (hd : Nat.blt d n = true := by rfl) (hw : wantE l0 E g = some true := by rfl) : J w0 n D E L (O ro P l0.toArray (⟨some d, .makeMap T none, R', pos, af, g⟩ :: l) Q) := fun a w he hs => by
  refine O_step rfl hw he ?_
  simp only [execOp, Option.map_none, Instr.makeMap, Sem.run_bind, run_newObj_alloc, Result.andThen, Sem.run_pure]
  have hs' := hs.alloc (.map #[] 0)
  refine kk _ _ _ (he.put hd _) (hs'.imp fun _ H => mapP_close (bs := []) (clock := 0) ⟨rfl, List.nodup_nil, by simp⟩ H)

theorem run_keySame {P : Program} {k : κ} {kt : TypeId} {w : World} (K : KeyOK P kt kenc) : (keyThatStays (kenc k) (kenc k)).run P w = .ok (kenc k) w := by
  simp [keyThatStays, K.same]
theorem mput_bok {k : κ} {v : υ} {bs : List Nat} {clock i j : Nat} {x : υ} (hb : BOK m bs clock) (h : mfnd k m i = some (j, x)) : BOK (mput k v m) bs clock := by
  obtain ⟨h1, h2, h3⟩ := hb
  exact ⟨by rw [(mput_some (kenc := fun _ => .nilIface) (venc := fun _ => .nilIface) (v := v) h h1).2.1]; exact h1, h2, h3⟩
theorem mput_bok' {k : κ} {v : υ} {bs : List Nat} {clock i : Nat} (hb : BOK m bs clock) (h : mfnd k m i = none) : BOK (mput k v m) (bs ++ [clock]) (clock + 1) := by
  obtain ⟨h1, h2, h3⟩ := hb
  rw [mput_none h]
  refine ⟨by simp [h1], ?_, ?_⟩
  · rw [List.nodup_append]
    refine ⟨h2, by simp, fun a ha b hb => ?_⟩
    simp only [List.mem_singleton] at hb
    have := h3 a ha; omega
  · intro x hx
    simp only [List.mem_append, List.mem_singleton] at hx
    rcases hx with h | h
    · have := h3 x h; omega
    · omega
theorem getObj_of {b : Nat} {es : Array MapEntry} {c : Nat} {w : World} (h : w.heap[b]? = some (.map es c)) : (getObj b).run P w = .ok (.map es c) w := by simp [getObj, Sem.run, h]
theorem setObj_of {b : Nat} {es : Array MapEntry} {c : Nat} {o' : Obj} {w : World} (h : w.heap[b]? = some (.map es c)) : (setObj b o').run P w = .ok () { w with heap := w.heap.setIfInBounds b o' } := by simp [setObj, Sem.run, h]

theorem run_mapUpdate {T kt vt : TypeId} {b : Nat} {k : κ} {v : υ} {w : World} (hT : P.underlying T = some (.map kt vt)) (K : KeyOK P kt kenc) (hs : St w0 (MapP b kenc venc m :: R) w) :
    ∃ w', (Instr.mapUpdate T (.map (some b)) (kenc k) (venc v)).run P w = .ok () w' ∧ St w0 (MapP b kenc venc (mput k v m) :: R) w' := by
  obtain ⟨bs, clock, hk, hb, hs'⟩ := hs.mapP
  have hfind := K.find venc k m bs w hk.1
  cases hf : mfnd k m 0 with
  | none =>
    rw [hf] at hfind
    refine ⟨{ w with heap := w.heap.setIfInBounds b (.map ((ents kenc venc m bs).toArray.push { key := kenc k, val := venc v, born := clock }) (clock + 1)) }, ?_, ?_⟩
    · unfold Instr.mapUpdate
      simp only [Sem.run_bind, run_underlying hT, Result.andThen, getObj_of hb, K.check, hfind, Option.map_none]
      exact setObj_of hb
    · refine (hs'.setB (o' := .map ((ents kenc venc m bs).toArray.push { key := kenc k, val := venc v, born := clock }) (clock + 1)) .here).imp fun _ H => mapP_close (mput_bok' (k := k) (v := v) hk hf) ?_
      rw [MapB, mput_none hf, ents_snoc hk.1]
      simpa using H
  | some p =>
    obtain ⟨j, x⟩ := p
    rw [hf] at hfind
    obtain ⟨_, h2, h3, h4⟩ := mput_some (kenc := kenc) (venc := venc) (v := v) hf hk.1
    have hkey : (((ents kenc venc m bs).toArray[j]?).map (·.key)).getD (kenc k) = kenc k := by
      rw [List.getElem?_toArray, ents_get hk.1]
      simp only [Nat.sub_zero] at h3
      rw [h3]
      cases bs[j]? <;> rfl
    refine ⟨{ w with heap := w.heap.setIfInBounds b (.map ((ents kenc venc m bs).toArray.modify j fun e => { e with key := kenc k, val := venc v }) clock) }, ?_, ?_⟩
    · unfold Instr.mapUpdate
      simp only [Sem.run_bind, run_underlying hT, Result.andThen, getObj_of hb, K.check, hfind, Option.map_some, hkey, run_keySame K]
      exact setObj_of hb
    · refine (hs'.setB (o' := .map ((ents kenc venc m bs).toArray.modify j fun e => { e with key := kenc k, val := venc v }) clock) .here).imp fun _ H => mapP_close (mput_bok (v := v) hk hf) ?_
      rw [MapB, ← h4]
      simp only [Nat.sub_zero]
      have e : (ents kenc venc m bs).toArray.modify j (fun e => { e with key := kenc k, val := venc v }) = ((ents kenc venc m bs).modify j fun e => { e with key := kenc k, val := venc v }).toArray := by
        simp [List.modify_toArray]
      rw [← e]; exact H
theorem s_mapUpdate {T kt vt R' : TypeId} {x y z : Operand} {pos : String} {af : Array Edge} {g : Option (Nat × Bool)} {b : Nat} {k : κ} {v : υ} (hx : ev E x = some (.map (some b))) (hy : ev E y = some (kenc k)) (hz : ev E z = some (venc v)) (hT : P.underlying T = some (.map kt vt)) (K : KeyOK P kt kenc)
    (t : Take L (MapP b kenc venc m) R) (kk : J w0 n D E (MapP b kenc venc (mput k v m) :: R) (O ro P l0.toArray l Q)) (hw : wantE l0 E g = some true := by rfl) :
    J w0 n D E L (O ro P l0.toArray (⟨none, .mapUpdate T x y z, R', pos, af, g⟩ :: l) Q) := fun a w he hs => by
  refine O_step rfl hw he ?_
  obtain ⟨w', hr, hs'⟩ := run_mapUpdate (k := k) (v := v) hT K (hs.take t)
  simp only [execOp, he.ev hx, he.ev hy, he.ev hz, Sem.run_bind, hr, Result.andThen, Sem.run_pure]
  exact kk _ _ he hs'

theorem pv_lookupOkB {T kt vt R' : TypeId} {x y : Operand} {b clock : Nat} {bs : List Nat} {k : κ} {z : Value} (hk : BOK m bs clock) (hx : ev E x = some (.map (some b))) (hy : ev E y = some (kenc k)) (hT : P.underlying T = some (.map kt vt)) (K : KeyOK P kt kenc) (hz : ∀ w, (zeroValue vt).run P w = .ok z w)
    (t : Take L (MapB b kenc venc m bs clock) R) : PV P w0 n D E L (.lookup T x y true) R' (.tuple #[match mget k m with | some v => venc v | none => z, .bool (mget k m).isSome]) := fun act w he hs _ _ _ _ => by
  have hb := (hs.take t).get_pt.1
  have hfind := K.find venc k m bs w hk.1
  simp only [execOp, he.ev hx, he.ev hy]
  unfold Instr.lookup
  simp only [Sem.run_bind, run_underlying hT, Result.andThen, getObj_of hb, K.check, hfind, Sem.run_pure]
  rw [mget_fnd (i := 0)]
  cases mfnd k m 0 with
  | none => simp [hz, Result.andThen]
  | some p => simp
theorem pv_lookupB {T kt vt R' : TypeId} {x y : Operand} {b clock : Nat} {bs : List Nat} {k : κ} {z : Value} (hk : BOK m bs clock) (hx : ev E x = some (.map (some b))) (hy : ev E y = some (kenc k)) (hT : P.underlying T = some (.map kt vt)) (K : KeyOK P kt kenc) (hz : ∀ w, (zeroValue vt).run P w = .ok z w)
    (t : Take L (MapB b kenc venc m bs clock) R) : PV P w0 n D E L (.lookup T x y false) R' (match mget k m with | some v => venc v | none => z) := fun act w he hs _ _ _ _ => by
  have hb := (hs.take t).get_pt.1
  have hfind := K.find venc k m bs w hk.1
  simp only [execOp, he.ev hx, he.ev hy]
  unfold Instr.lookup
  simp only [Sem.run_bind, run_underlying hT, Result.andThen, getObj_of hb, K.check, hfind, Sem.run_pure]
  rw [mget_fnd (i := 0)]
  cases mfnd k m 0 with
  | none => simp [hz]
  | some p => simp
theorem pv_lenMB {T kt vt R' : TypeId} {x : Operand} {b clock : Nat} {bs : List Nat} (hk : BOK m bs clock) (hx : ev E x = some (.map (some b))) (hT : P.underlying T = some (.map kt vt)) (t : Take L (MapB b kenc venc m bs clock) R) :
    PV P w0 n D E L (.call ⟨.builtin .len, #[x], #[T]⟩) R' (.int .i64 m.length) := fun act w he hs _ _ _ _ => by
  have hb := (hs.take t).get_pt.1
  simp [execOp, resolve, invoke, builtin, Builtin.len_, he.ev hx, run_underlying hT, getObj_of hb, Result.andThen, ents_len hk.1, goInt]

theorem pv_lookupOk {T kt vt R' : TypeId} {x y : Operand} {b : Nat} {k : κ} {z : Value} (hx : ev E x = some (.map (some b))) (hy : ev E y = some (kenc k)) (hT : P.underlying T = some (.map kt vt)) (K : KeyOK P kt kenc) (hz : ∀ w, (zeroValue vt).run P w = .ok z w)
    (t : Take L (MapP b kenc venc m) R) : PV P w0 n D E L (.lookup T x y true) R' (.tuple #[match mget k m with | some v => venc v | none => z, .bool (mget k m).isSome]) := fun act w he hs _ _ _ _ => by
  obtain ⟨bs, clock, hk, hb, _⟩ := (hs.take t).mapP
  have hfind := K.find venc k m bs w hk.1
  simp only [execOp, he.ev hx, he.ev hy]
  unfold Instr.lookup
  simp only [Sem.run_bind, run_underlying hT, Result.andThen, getObj_of hb, K.check, hfind, Sem.run_pure]
  rw [mget_fnd (i := 0)]
  cases mfnd k m 0 with
  | none => simp [hz, Result.andThen]
  | some p => simp
theorem pv_lookup {T kt vt R' : TypeId} {x y : Operand} {b : Nat} {k : κ} {z : Value} (hx : ev E x = some (.map (some b))) (hy : ev E y = some (kenc k)) (hT : P.underlying T = some (.map kt vt)) (K : KeyOK P kt kenc) (hz : ∀ w, (zeroValue vt).run P w = .ok z w)
    (t : Take L (MapP b kenc venc m) R) : PV P w0 n D E L (.lookup T x y false) R' (match mget k m with | some v => venc v | none => z) := fun act w he hs _ _ _ _ => by
  obtain ⟨bs, clock, hk, hb, _⟩ := (hs.take t).mapP
  have hfind := K.find venc k m bs w hk.1
  simp only [execOp, he.ev hx, he.ev hy]
  unfold Instr.lookup
  simp only [Sem.run_bind, run_underlying hT, Result.andThen, getObj_of hb, K.check, hfind, Sem.run_pure]
  rw [mget_fnd (i := 0)]
  cases mfnd k m 0 with
  | none => simp [hz]
  | some p => simp
theorem pv_lenM {T kt vt R' : TypeId} {x : Operand} {b : Nat} (hx : ev E x = some (.map (some b))) (hT : P.underlying T = some (.map kt vt)) (t : Take L (MapP b kenc venc m) R) :
    PV P w0 n D E L (.call ⟨.builtin .len, #[x], #[T]⟩) R' (.int .i64 m.length) := fun act w he hs _ _ _ _ => by
  obtain ⟨bs, clock, hk, hb, _⟩ := (hs.take t).mapP
  simp [execOp, resolve, invoke, builtin, Builtin.len_, he.ev hx, run_underlying hT, getObj_of hb, Result.andThen, ents_len hk.1, goInt]

/-! ### a walk over a map -/
def It (r b clock : Nat) (seen : Array Nat) : SP := pt r (.mapIter (some b) clock seen clock)
theorem s_range {T kt vt R' : TypeId} {x : Operand} {d : Nat} {pos : String} {af : Array Edge} {g : Option (Nat × Bool)} {b : Nat} (hx : ev E x = some (.map (some b))) (hT : P.underlying T = some (.map kt vt)) (t : Take L (MapP b kenc venc m) R)
    (kk : ∀ r bs clock, BOK m bs clock → J w0 n D ((d, .pointer (some ⟨r, 0, none⟩)) :: E) (It r b clock #[] :: MapB b kenc venc m bs clock :: R) (O ro P l0.toArray l Q)) (hd : Nat.blt d n = true := by rfl) (hw : wantE l0 E g = some true := by rfl) :
    J w0 n D E L (O ro P l0.toArray (⟨some d, .range T x, R', pos, af, g⟩ :: l) Q) := fun a w he hs => by
  refine O_step rfl hw he ?_
  obtain ⟨bs, clock, hk, hb, hs'⟩ := (hs.take t).mapP
  simp only [execOp, he.ev hx]
  unfold Instr.range
  simp only [Sem.run_bind, run_underlying hT, Result.andThen, getObj_of hb, Sem.run_pure, run_newObj_alloc]
  exact kk _ bs clock hk _ _ (he.put hd _) (hs'.alloc _)
def mleft (bs : List Nat) (seen : Array Nat) : Nat := (bs.filter fun x => !seen.contains x).length
theorem filter_lt {p q : Nat → Bool} {x : Nat} {l : List Nat} (hpq : ∀ y, p y = true → q y = true) (hx : x ∈ l) (hq : q x = true) (hp : p x = false) : (l.filter p).length < (l.filter q).length := by
  have hle : ∀ l : List Nat, (l.filter p).length ≤ (l.filter q).length := by
    intro l
    induction l with
    | nil => simp
    | cons y l ih =>
      simp only [List.filter_cons]
      cases hpy : p y with
      | true => simp [hpq y hpy]; exact ih
      | false => cases q y <;> simp <;> omega
  induction l with
  | nil => simp at hx
  | cons y l ih =>
    simp only [List.filter_cons]
    rcases List.mem_cons.1 hx with rfl | h
    · simp only [hp, hq, if_true, Bool.false_eq_true, if_false, List.length_cons]
      have := hle l; omega
    · have := ih h
      cases hpy : p y with
      | true => simp [hpq y hpy]; exact this
      | false => cases q y <;> simp <;> omega
theorem mleft_push {bs : List Nat} {seen : Array Nat} {x : Nat} (h1 : x ∈ bs) (h2 : x ∉ seen) : mleft bs (seen.push x) < mleft bs seen := by
  refine filter_lt (x := x) (fun y hy => ?_) h1 (by simpa using h2) (by simp)
  simp only [Array.contains_eq_mem, Array.mem_push, Bool.not_eq_true', decide_eq_false_iff_not, not_or] at hy ⊢
  exact hy.1
theorem setIt_of {r b clock : Nat} {seen : Array Nat} {w : World} (o' : Obj) (h : w.heap[r]? = some (.mapIter (some b) clock seen clock)) : (setObj r o').run P w = .ok () { w with heap := w.heap.setIfInBounds r o' } := by simp [setObj, Sem.run, h]
theorem BOK.get {bs : List Nat} {clock i : Nat} {p : κ × υ} (h : BOK m bs clock) (hp : m[i]? = some p) : ∃ x, bs[i]? = some x := by
  have : i < m.length := by
    rcases Nat.lt_or_ge i m.length with h' | h'
    · exact h'
    · rw [List.getElem?_eq_none h'] at hp; cases hp
  exact ⟨bs[i]'(by rw [h.1]; exact this), by simp [List.getElem?_eq_getElem (show i < bs.length by rw [h.1]; exact this)]⟩
theorem ents_born {m : List (κ × υ)} : ∀ {bs : List Nat}, bs.length = m.length → (ents kenc venc m bs).map (·.born) = bs := by
  induction m with
  | nil => intro bs h; cases bs with | nil => rfl | cons => simp at h
  | cons p m ih => obtain ⟨k', v'⟩ := p; intro bs h; cases bs with
    | nil => simp at h
    | cons b bs => simp only [ents, List.map_cons]; rw [ih (by simpa using h)]
/-- The step of a walk. -/
theorem s_next {x : Operand} {T : TypeId} {d r b clock : Nat} {pos : String} {af : Array Edge} {g : Option (Nat × Bool)} {bs : List Nat} {seen : Array Nat} (hx : ev E x = some (.pointer (some ⟨r, 0, none⟩))) (hk : BOK m bs clock)
    (t : Take L (MapB b kenc venc m bs clock) R) (ht : ∀ y, Upd L (It r b clock seen) (It r b clock y) (LL y))
    (k0 : (∀ y ∈ bs, y ∈ seen) → J w0 n D ((d, .tuple #[.bool false]) :: E) L (O ro P l0.toArray l Q))
    (k1 : ∀ (i : Nat) k v y, m[i]? = some (k, v) → bs[i]? = some y → y ∉ seen → mleft bs (seen.push y) < mleft bs seen → J w0 n D ((d, .tuple #[.bool true, kenc k, venc v]) :: E) (LL (seen.push y)) (O ro P l0.toArray l Q))
    (hd : Nat.blt d n = true := by rfl) (hw : wantE l0 E g = some true := by rfl) :
    J w0 n D E L (O ro P l0.toArray (⟨some d, .next x false, T, pos, af, g⟩ :: l) Q) := fun a w he hs => by
  refine O_step rfl hw he ?_
  simp only [execOp, he.ev hx, Sem.run_bind]
  have hb := (hs.take t).get_pt.1
  obtain ⟨_, t2, _⟩ := (ht #[]).takes
  have hr := (hs.take t2).get_pt.1
  rcases run_next_at (P := P) w T r b clock clock seen _ clock hr hb (fun e hi => by
      have : e.born ∈ (ents kenc venc m bs).map (·.born) := List.mem_map.2 ⟨e, hi, rfl⟩
      rw [ents_born hk.1] at this
      exact hk.2.2 _ this) (Nat.le_refl _) with ⟨h0, hrun⟩ | ⟨e, hel, w1, hw1, hrun⟩
  · rw [hrun]
    simp only [Result.andThen]
    refine k0 (fun y hy => ?_) _ _ (he.put hd _) hs
    rw [← ents_born (kenc := kenc) (venc := venc) hk.1] at hy
    obtain ⟨e, hel, rfl⟩ := List.mem_map.1 hy
    by_cases hc : e.born ∈ seen
    · exact hc
    · exfalso
      have : e ∈ leftOf (ents kenc venc m bs).toArray seen := by
        simp [leftOf, hel, hc]
      have hz := Array.eq_empty_of_size_eq_zero h0
      rw [hz] at this; simp at this
  · rw [hrun]
    simp only [Result.andThen]
    have hmem : e ∈ ents kenc venc m bs ∧ e.born ∉ seen := by
      simpa [leftOf, Array.mem_filter] using hel
    obtain ⟨i, hi⟩ := List.mem_iff_getElem?.1 hmem.1
    rw [ents_get hk.1] at hi
    cases hm : m[i]? with
    | none => simp [hm] at hi
    | some p =>
      obtain ⟨y, hy⟩ := hk.get hm
      rw [hm, hy] at hi
      obtain rfl := Option.some.inj hi
      have hs1 : St w0 L w1 := by
        rcases hw1 with rfl | rfl
        · exact hs
        · exact hs.drew
      exact k1 i p.1 p.2 y hm hy hmem.2 (mleft_push (List.mem_of_getElem? hy) hmem.2) _ _ (he.put hd _) (hs1.setB (ht _))
theorem pv_entry {x : Operand} {T : TypeId} {r b clock i y : Nat} {k : κ} {v : υ} {bs : List Nat} {seen : Array Nat} {R2 : List SP} (hx : ev E x = some (.pointer (some ⟨r, 0, none⟩))) (hk : BOK m bs clock) (hm : m[i]? = some (k, v)) (hy : bs[i]? = some y)
    (t : Take L (MapB b kenc venc m bs clock) R) (t2 : Take L (It r b clock (seen.push y)) R2) : PV P w0 n D E L (.entry x) T (.tuple #[kenc k, venc v]) := fun act w he hs _ _ _ _ => by
  have hb := (hs.take t).get_pt.1
  have hr := (hs.take t2).get_pt.1
  have := run_entry_at (P := P) w r b clock seen _ clock { key := kenc k, val := venc v, born := y } hr hb (by
    have : (ents kenc venc m bs)[i]? = some { key := kenc k, val := venc v, born := y } := by rw [ents_get hk.1, hm, hy]; rfl
    exact List.mem_of_getElem? this) (by
    show ((ents kenc venc m bs).map (·.born)).Nodup
    rw [ents_born hk.1]; exact hk.2.1)
  simp only [execOp, he.ev hx, Sem.run_bind, this, Result.andThen, Sem.run_pure]

theorem j_cast {A B : SP} {G : Act → World → Prop} (t : Take L A R) (e : A = B) (h : J w0 n D E (B :: R) G) : J w0 n D E L G := by
  subst e; exact h.take t
theorem pv_eqnil {x y : Operand} {T T' R' e : TypeId} {a : Addr} (hx : ev E x = some (.pointer (some a))) (hy : ev E y = some (.pointer none)) (hT : P.underlying T = some (.pointer e)) : PV P w0 n D E L (.binOp .eql T x y T') R' (.bool false) :=
  pv_eqv hx hy fun w => by
    have : (Op.equal T (.pointer (some a)) (.pointer none)).run P w = .ok false w := run_equal_succ fun d => by simp [Op.equalIn, underlying, hT]
    simp [eqGuard, binOp, this]
theorem pv_nenil {x y : Operand} {T T' R' e : TypeId} {a : Addr} (hx : ev E x = some (.pointer (some a))) (hy : ev E y = some (.pointer none)) (hT : P.underlying T = some (.pointer e)) : PV P w0 n D E L (.binOp .neq T x y T') R' (.bool true) :=
  pv_eqv hx hy fun w => by
    have : (Op.equal T (.pointer (some a)) (.pointer none)).run P w = .ok false w := run_equal_succ fun d => by simp [Op.equalIn, underlying, hT]
    simp [eqGuard, binOp, this]
theorem pv_eqA {op : BinOp} {x y : Operand} {T T' R' : TypeId} {fs : Array Field} {xs ys : List Value} {r : Bool} (hx : ev E x = some (.agg xs.toArray)) (hy : ev E y = some (.agg ys.toArray)) (hg : P.eqGuardType P.depth T = false) (hT : P.underlying T = some (.struct fs)) (hs : P.stoodInHeld T = false)
    (h : ∀ w, (Op.eqFields 9999 xs.toArray ys.toArray fs.toList).run P w = .ok r w) (ho : op = .eql) : PV P w0 n D E L (.binOp op T x y T') R' (.bool r) := by
  subst ho
  refine pv_eqv hx hy fun w => ?_
  have hf : P.fieldsOf T = fs := by simp [Program.fieldsOf, hT]
  have h1 := run_equalIn_agg (P := P) w 9999 T xs.toArray ys.toArray (by rw [hf]; exact hT) hs
  rw [hf, h w] at h1
  simp only [Sem.run_bind, run_eqGuard_agg w _ _ _ _ _ _ hg, Result.andThen, run_eql_struct, h1]
theorem pv_neA {op : BinOp} {x y : Operand} {T T' R' : TypeId} {fs : Array Field} {xs ys : List Value} {r : Bool} (hx : ev E x = some (.agg xs.toArray)) (hy : ev E y = some (.agg ys.toArray)) (hg : P.eqGuardType P.depth T = false) (hT : P.underlying T = some (.struct fs)) (hs : P.stoodInHeld T = false)
    (h : ∀ w, (Op.eqFields 9999 xs.toArray ys.toArray fs.toList).run P w = .ok r w) (ho : op = .neq) : PV P w0 n D E L (.binOp op T x y T') R' (.bool !r) := by
  subst ho
  refine pv_eqv hx hy fun w => ?_
  have hf : P.fieldsOf T = fs := by simp [Program.fieldsOf, hT]
  have h1 := run_equalIn_agg (P := P) w 9999 T xs.toArray ys.toArray (by rw [hf]; exact hT) hs
  rw [hf, h w] at h1
  simp only [Sem.run_bind, run_eqGuard_agg w _ _ _ _ _ _ hg, Result.andThen, run_neq_struct, h1]
end
end Go.Z
