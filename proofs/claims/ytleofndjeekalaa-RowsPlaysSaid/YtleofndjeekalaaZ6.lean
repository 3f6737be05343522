/- The words of a small separation logic over the model: a statement whose order is open, calls that turn memory among its operations. -/
import Derived.Test.YtleofndjeekalaaZ5
namespace Go.Z
open Go Go.RowKit

/-- Where an operation stands: anywhere; behind p of the chain's; the chain's own j. -/
inductive Mk
  | fl
  | pin (p : Nat)
  | ch (j : Nat)
  deriving DecidableEq
def HC (P : Program) (w0 : World) (n : Nat) (D : List Deferred) (l0 : List Oper) (E1 : List (Nat × Value)) (L L' : List SP) (o : Oper) (v : Value) : Prop :=
  (wantE l0 E1 o.guard = some true ∧ ∀ a w, EnvOK a n D E1 → St w0 L w → quietR P w0 L' v ((execOp a.eval o).run P w)) ∨ (wantE l0 E1 o.guard = some false ∧ v = undef ∧ ∀ w, St w0 L w → St w0 L' w)
def HK (P : Program) (w0 : World) (n : Nat) (D : List Deferred) (l0 : List Oper) (E1 : List (Nat × Value)) (S : List SP) (Ls : Nat → List SP) (o : Oper) (v : Value) : Mk → Prop
  | .fl => (wantE l0 E1 o.guard = some true ∧ PV P w0 n D E1 S o.op o.type v) ∨ (wantE l0 E1 o.guard = some false ∧ v = undef)
  | .pin p => HC P w0 n D l0 E1 (Ls p) (Ls p) o v
  | .ch j => HC P w0 n D l0 E1 (Ls j) (Ls (j + 1)) o v
def cnt (ch : List Nat) (listed : Array Bool) : Nat := ch.countP fun i => listed.getD i false
def isCh : Option Mk → Nat → Bool
  | some (.ch j), k => Nat.beq j k
  | _, _ => false
def chOK (l : List Oper) (m : Nat) (ch : List Nat) (mks : List Mk) : Bool :=
  ((List.range ch.length).all fun k => match ch[k]? with
    | some c => Nat.blt c m && isCh mks[c]? k && (List.range k).all fun j => match ch[j]? with | some d => waitsB l l.length c d | none => false
    | none => false) &&
  ((List.range m).all fun i => match mks[i]? with
    | some .fl => ch.all fun c => !Nat.beq c i
    | some (.pin p) => (ch.all fun c => !Nat.beq c i) && Nat.ble p ch.length && (List.range ch.length).all fun j => match ch[j]? with | some c => (if Nat.blt j p then waitsB l l.length i c else waitsB l l.length c i) | none => false
    | some (.ch j) => match ch[j]? with | some c => Nat.beq c i | none => false
    | none => false)

section
variable {w0 : World} {n : Nat} {D : List Deferred} {E E' E1 : List (Nat × Value)} {L L' R As : List SP} {P : Program} {ro : Option Nat} {Q : Exit → Act → World → Prop} {l0 l : List Oper}

theorem cnt_all {ch : List Nat} {listed : Array Bool} (h : ∀ i ∈ ch, listed.getD i false = true) : cnt ch listed = ch.length := by
  unfold cnt; exact List.countP_eq_length.2 h
theorem cnt_other {ch : List Nat} {listed : Array Bool} {i : Nat} (h : ∀ c ∈ ch, c ≠ i) : cnt ch (listed.setIfInBounds i true) = cnt ch listed := by
  unfold cnt
  refine List.countP_congr fun c hc => ?_
  rw [getD_set_ne false (fun e => h c hc e.symm)]
theorem cnt_eq {ch : List Nat} {listed : Array Bool} {p : Nat} (hp : p ≤ ch.length) (h1 : ∀ j c, j < p → ch[j]? = some c → listed.getD c false = true) (h2 : ∀ j c, p ≤ j → ch[j]? = some c → listed.getD c false = false) : cnt ch listed = p := by
  unfold cnt
  conv => lhs; rw [← List.take_append_drop p ch]
  rw [List.countP_append]
  have e1 : (ch.take p).countP (fun i => listed.getD i false) = (ch.take p).length := List.countP_eq_length.2 fun c hc => by
    obtain ⟨j, hj⟩ := List.mem_iff_getElem?.1 hc
    rw [List.getElem?_take] at hj
    split at hj
    · exact h1 j c (by assumption) hj
    · cases hj
  have e2 : (ch.drop p).countP (fun i => listed.getD i false) = 0 := List.countP_eq_zero.2 fun c hc => by
    obtain ⟨j, hj⟩ := List.mem_iff_getElem?.1 hc
    rw [List.getElem?_drop] at hj
    rw [h2 (p + j) c (by omega) hj]; simp
  rw [e1, e2]; simp; omega
theorem chOK_lt {m : Nat} {ch : List Nat} {mks : List Mk} (h : chOK l m ch mks = true) : ∀ c ∈ ch, c < m := by
  intro c hc
  obtain ⟨k, hk⟩ := List.mem_iff_getElem?.1 hc
  have hkl := (List.getElem?_eq_some_iff.1 hk).1
  simp only [chOK, Bool.and_eq_true] at h
  have h1 := List.all_eq_true.1 h.1 k (by simpa using hkl)
  simp only [hk, Bool.and_eq_true] at h1
  simpa [Nat.blt_eq] using h1.1.1
def MkFact (l : List Oper) (ch : List Nat) (i : Nat) : Mk → Prop
  | .fl => ∀ c ∈ ch, c ≠ i
  | .pin p => (∀ c ∈ ch, c ≠ i) ∧ p ≤ ch.length ∧ (∀ j c, j < p → ch[j]? = some c → waitsB l l.length i c = true) ∧ (∀ j c, p ≤ j → ch[j]? = some c → waitsB l l.length c i = true)
  | .ch j => ch[j]? = some i ∧ (∀ k c, k < j → ch[k]? = some c → waitsB l l.length i c = true) ∧ (∀ k c, j < k → ch[k]? = some c → waitsB l l.length c i = true ∧ i ≠ c)
theorem all_ne {ch : List Nat} {i : Nat} (h : (ch.all fun c => !Nat.beq c i) = true) : ∀ c ∈ ch, c ≠ i := fun c hc e => by
  have := List.all_eq_true.1 h c hc
  rw [e, Nat.beq_refl] at this; cases this
theorem chOK_at {m i : Nat} {ch : List Nat} {mks : List Mk} {k : Mk} (h : chOK l m ch mks = true) (hi : i < m) (hk : mks[i]? = some k) : MkFact l ch i k := by
  have h' := h
  simp only [chOK, Bool.and_eq_true] at h
  have h2 := List.all_eq_true.1 h.2 i (by simpa using hi)
  have hch : ∀ k c, ch[k]? = some c → isCh mks[c]? k = true ∧ ∀ j d, j < k → ch[j]? = some d → waitsB l l.length c d = true := by
    intro k c hc
    have hkl := (List.getElem?_eq_some_iff.1 hc).1
    have h1 := List.all_eq_true.1 h.1 k (by simpa using hkl)
    simp only [hc, Bool.and_eq_true] at h1
    refine ⟨h1.1.2, fun j d hj hd => ?_⟩
    have h3 := List.all_eq_true.1 h1.2 j (by simpa using hj)
    simpa [hd] using h3
  simp only [hk] at h2
  cases k with
  | fl => exact all_ne h2
  | pin p =>
    simp only [Bool.and_eq_true] at h2
    refine ⟨all_ne h2.1.1, Nat.le_of_ble_eq_true h2.1.2, fun j c hj hc => ?_, fun j c hj hc => ?_⟩
    · have hjl := (List.getElem?_eq_some_iff.1 hc).1
      have h3 := List.all_eq_true.1 h2.2 j (by simpa using hjl)
      have : Nat.blt j p = true := by simpa [Nat.blt_eq] using hj
      simpa [hc, this] using h3
    · have hjl := (List.getElem?_eq_some_iff.1 hc).1
      have h3 := List.all_eq_true.1 h2.2 j (by simpa using hjl)
      have : Nat.blt j p = false := by
        cases hb : Nat.blt j p with
        | false => rfl
        | true => have : j < p := by simpa [Nat.blt_eq] using hb
                  omega
      simpa [hc, this] using h3
  | ch j =>
    simp only at h2
    cases hc : ch[j]? with
    | none => rw [hc] at h2; cases h2
    | some c =>
      rw [hc] at h2
      have := Nat.eq_of_beq_eq_true h2
      subst this
      refine ⟨hc, fun k d hk' hd => (hch j c hc).2 k d hk' hd, fun k d hk' hd => ⟨(hch k d hd).2 j c hk' hc, fun e => ?_⟩⟩
      subst e
      have h3 := (hch k c hd).1
      rw [hk] at h3
      have := Nat.eq_of_beq_eq_true (show Nat.beq j k = true from h3)
      omega

theorem head_anyC {m : Nat} {vals : List Value} {mks : List Mk} {ch : List Nat} {S : List SP} {Ls : Nat → List SP} (hm : m ≤ l.length) (hnd : nodupB (dstsOf (l.take m)) = true) (hok : ∀ j o, j < m → l[j]? = some o → headOK (l.take m) m o = true)
    (hord : ∀ j o, l[j]? = some o → ∀ e ∈ o.after, Region.binds .any e = true → e.on < j) (hw : ∀ t, m ≤ t → t < l.length → ∀ i, i < t → waitsB l l.length t i = true)
    (hd : ∀ d ∈ dstsOf (l.take m), d < n) (hvl : vals.length = m) (hH : ∀ j o v k, j < m → l[j]? = some o → vals[j]? = some v → mks[j]? = some k → HK P w0 n D l (heads (l.take m) vals E) S Ls o v k) (hmk : mks.length = m)
    (hS : ∀ p, p ≤ ch.length → ∀ w, St w0 (Ls p) w → St w0 S w) (hch : chOK l m ch mks = true)
    (ht : J w0 n D (heads (l.take m) vals E) (Ls ch.length) (O ro P l.toArray (l.drop m) Q)) :
    ∀ (fuel : Nat) (listed : Array Bool) (a : Act) (w : World), listed.toList.count false ≤ fuel → DrawInv l m n D E vals listed a → St w0 (Ls (cnt ch listed)) w → wpAnyIn (FW ro) 0 P .any l.toArray Q fuel listed a w := by
  have hcntlen : ∀ listed : Array Bool, ∀ i, listed.getD i true = false → 0 < listed.toList.count false := by
    intro listed i hi
    rcases Nat.lt_or_ge i listed.size with h | h
    · simp [h] at hi
      exact List.count_pos_iff.2 (by rw [← hi]; simp)
    · simp [Array.getElem?_eq_none h] at hi
  intro fuel
  induction fuel with
  | zero =>
    intro listed a w hc inv hs
    have hall : ∀ i, i < l.length → listed.getD i false = true := by
      intro i hi
      have hi' : i < listed.size := by rw [inv.size]; exact hi
      cases h : listed.getD i false with
      | true => rfl
      | false => have := hcntlen listed i (by simp [hi'] at h ⊢; exact h); omega
    have hml : l.length ≤ m := by
      rcases Nat.lt_or_ge m l.length with h | h
      · have h1 := inv.tail m (Nat.le_refl _) h
        have h2 := hall m h
        have : m < listed.size := by rw [inv.size]; exact h
        simp [this] at h1 h2; rw [h1] at h2; cases h2
      · exact h
    refine tail_any (m := m) hord hw 0 l.length listed a w hm inv.size (fun j _ hj => hall j hj) (fun j h1 h2 => by omega) (by omega) ?_
    have hE : EnvOK a n D (heads (l.take m) vals E) := by
      have h1 := fill_env (n := n) (D := D) (E := E) (os := l.take m) (vs := vals) (a := a) (by simp; omega) inv.an inv.ad hd inv.base
      refine ⟨inv.an, inv.ad, fun k v hk => ?_⟩
      by_cases hkd : k ∈ dstsOf (l.take m)
      · obtain ⟨j, o, hj, hod⟩ := mem_dstsOf.1 hkd
        have hjm : j < m := by have := (List.getElem?_eq_some_iff.1 hj).1; simp at this; omega
        have hj' : l[j]? = some o := by rw [List.getElem?_take, if_pos hjm] at hj; exact hj
        obtain ⟨u, hu⟩ : ∃ u, vals[j]? = some u := ⟨vals[j]'(by omega), by simp [hvl, hjm]⟩
        have := look_heads (E := E) hnd hj hod hu
        rw [this] at hk; cases hk
        exact inv.done j o k _ hjm hj' hod hu (hall j (by omega))
      · have := h1.get k v hk; rwa [fill_other hkd] at this
    have hcn : cnt ch listed = ch.length := cnt_all fun i hi => hall i (by have := chOK_lt hch i hi; omega)
    rw [hcn] at hs
    have := ht a w hE hs
    have hdl : l.drop m = l.drop l.length := by rw [List.drop_eq_nil_of_le hml, List.drop_eq_nil_of_le (Nat.le_refl _)]
    rw [hdl] at this; exact this
  | succ fuel ih =>
    intro listed a w hc inv hs
    have hfillE : EnvOK (fill a (l.take m) vals) n D (heads (l.take m) vals E) := fill_env (by simp; omega) inv.an inv.ad hd inv.base
    by_cases hall : ∀ j, j < m → listed.getD j false = true
    · -- all heads are done
      refine tail_any (m := m) hord hw (fuel + 1) m listed a w (Nat.le_refl _) inv.size (fun j hj _ => hall j hj) inv.tail ?_ ?_
      · have : listed.toList.count false ≥ l.length - m := by
          have hsz := inv.size
          have htl := inv.tail
          have : listed.toList = listed.toList.take m ++ listed.toList.drop m := (List.take_append_drop _ _).symm
          rw [this, List.count_append]
          have h2 : (listed.toList.drop m).count false = (listed.toList.drop m).length := by
            rw [List.count_eq_length]
            intro b hb
            obtain ⟨j, hj⟩ := List.mem_iff_getElem?.1 hb
            rw [List.getElem?_drop] at hj
            have hjlt : m + j < l.length := by have := (List.getElem?_eq_some_iff.1 hj).1; simp [hsz] at this; exact this
            have h3 := htl (m + j) (by omega) hjlt
            have : m + j < listed.size := by omega
            simp [this] at h3 hj
            rw [← hj, h3]
          rw [h2]; simp [hsz]
        omega
      · have hcn : cnt ch listed = ch.length := cnt_all fun i hi => hall i (chOK_lt hch i hi)
        rw [hcn] at hs
        refine ht a w ⟨inv.an, inv.ad, fun k v hk => ?_⟩ hs
        by_cases hkd : k ∈ dstsOf (l.take m)
        · obtain ⟨j, o, hj, hod⟩ := mem_dstsOf.1 hkd
          have hjm : j < m := by have := (List.getElem?_eq_some_iff.1 hj).1; simp at this; omega
          have hj' : l[j]? = some o := by rw [List.getElem?_take, if_pos hjm] at hj; exact hj
          obtain ⟨u, hu⟩ : ∃ u, vals[j]? = some u := ⟨vals[j]'(by omega), by simp [hvl, hjm]⟩
          have := look_heads (E := E) hnd hj hod hu
          rw [this] at hk; cases hk
          exact inv.done j o k _ hjm hj' hod hu (hall j hjm)
        · have := hfillE.get k v hk; rwa [fill_other hkd] at this
    · -- some head is open: the first one may come up
      have hex : ∃ j, j < m ∧ listed.getD j false = false ∧ ∀ i, i < j → listed.getD i false = true := by
        have : ∀ k, (∀ j, j < k → j < m → listed.getD j false = true) ∨ ∃ j, j < m ∧ listed.getD j false = false ∧ ∀ i, i < j → listed.getD i false = true := by
          intro k
          induction k with
          | zero => left; intro j hj; omega
          | succ k ihk =>
            rcases ihk with h | h
            · by_cases hkm : k < m
              · cases hk : listed.getD k false with
                | true => left; intro j hj hjm; rcases Nat.lt_or_ge j k with h' | h'
                          · exact h j h' hjm
                          · have : j = k := by omega
                            subst this; exact hk
                | false => right; exact ⟨k, hkm, hk, fun i hi => h i hi (by omega)⟩
              · left; intro j hj hjm; exact h j (by omega) hjm
            · exact .inr h
        rcases this m with h | h
        · exact absurd (fun j hj => h j hj hj) hall
        · exact h
      obtain ⟨j0, hj0, hj0f, hj0l⟩ := hex
      have hun : ∀ i, i < l.length → listed.getD i false = false → listed.getD i true = false := fun i hi h => by
        have : i < listed.size := by rw [inv.size]; exact hi
        simp [this] at h ⊢; exact h
      have hr0 : j0 ∈ Region.ready .any l.toArray listed := by
        have hlt : j0 < l.length := by omega
        refine mem_ready.2 ⟨hun j0 hlt hj0f, l[j0], by simp [hlt], fun e he hb => ?_⟩
        exact hj0l _ (hord j0 l[j0] (by simp [hlt]) e he hb)
      refine ⟨fun h0 => (by rw [h0] at hr0; cases hr0), fun i hi => ?_⟩
      obtain ⟨hiun, o, ho, hiall⟩ := mem_ready.1 hi
      have ho' : l[i]? = some o := by simpa using ho
      have hilt : i < l.length := (List.getElem?_eq_some_iff.1 ho').1
      have him : i < m := by
        rcases Nat.lt_or_ge i m with h | h
        · exact h
        · have := waitsB_listed inv.closed _ i j0 (hw i h hilt j0 (by omega)) ⟨o, ho', hiall⟩
          rw [hj0f] at this; cases this
      have hok' := hok i o him ho'
      simp only [headOK, Bool.and_eq_true] at hok'
      obtain ⟨⟨⟨hopr, hg⟩, hndf⟩, hnsel⟩ := hok'
      have hedge : ∀ j, hasEdge o j = true → listed.getD j false = true := fun j hj => by
        simp only [hasEdge, List.any_eq_true, Bool.and_eq_true] at hj
        obtain ⟨e, he, hb, hej⟩ := hj
        rw [← Nat.eq_of_beq_eq_true hej]; exact hiall e (by simpa using he) hb
      -- what a slot of the head holds, here and in the filled frame
      have hslot : ∀ j oj d, j < m → l[j]? = some oj → oj.dst = some d → hasEdge o j = true → a.tmps[d]? = (fill a (l.take m) vals).tmps[d]? := by
        intro j oj d hjm hj hod he
        obtain ⟨u, hu⟩ : ∃ u, vals[j]? = some u := ⟨vals[j]'(by omega), by simp [hvl, hjm]⟩
        rw [inv.done j oj d u hjm hj hod hu (hedge j he)]
        have hj' : (l.take m)[j]? = some oj := by rw [List.getElem?_take, if_pos hjm]; exact hj
        exact (hfillE.get d u (look_heads hnd hj' hod hu)).symm
      have hsame : ∀ x ∈ o.op.operands, a.eval x = (fill a (l.take m) vals).eval x := by
        intro x hx
        cases x with
        | tmp t =>
          have h1 := List.all_eq_true.1 hopr (.tmp t) (by simpa using hx)
          simp only [Act.eval, Array.getD_eq_getD_getElem?]
          by_cases htd : t ∈ dstsOf (l.take m)
          · obtain ⟨j, oj, hj, hod⟩ := mem_dstsOf.1 htd
            have hjl : j < (l.take m).length := (List.getElem?_eq_some_iff.1 hj).1
            have hjm : j < m := by simp at hjl; omega
            have h2 := List.all_eq_true.1 h1 j (by simpa using hjl)
            simp only [hj, hod, Nat.beq_refl, Bool.not_true, Bool.false_or] at h2
            rw [hslot j oj t hjm (by rw [List.getElem?_take, if_pos hjm] at hj; exact hj) hod h2]
          · rw [fill_other htd]
        | const v => rfl
        | global g => rfl
        | func f => rfl
      have hyield : Region.wanted o (yielded l.toArray a.tmps) = Region.wanted o (yielded l.toArray (fill a (l.take m) vals).tmps) := by
        unfold Region.wanted
        cases hgd : o.guard with
        | none => rfl
        | some p =>
          obtain ⟨j, want⟩ := p
          simp only [hgd, Bool.and_eq_true] at hg
          have hjm : j < m := by have := hg.1; simpa [Nat.blt_eq] using this
          have hjl : j < l.length := by omega
          simp only [yielded, List.getElem?_toArray]
          cases hod : (l[j]'hjl).dst with
          | none => simp [hjl, hod]
          | some d =>
            have := hslot j l[j] d hjm (by simp [hjl]) hod hg.2
            simp [hjl, hod, this]
      obtain ⟨v, hv⟩ : ∃ v, vals[i]? = some v := ⟨vals[i]'(by omega), by simp [hvl, him]⟩
      have hcnt : (listed.setIfInBounds i true).toList.count false ≤ fuel := by
        have h1 : listed.toList[i]? = some false := by
          have : i < listed.size := by rw [inv.size]; exact hilt
          simp [this] at hiun ⊢; exact hiun
        have := count_set h1
        simp only [Array.toList_setIfInBounds]
        omega
      -- what holds behind this operation
      have hnext : ∀ w', St w0 (Ls (cnt ch (listed.setIfInBounds i true))) w' → wpAnyIn (FW ro) 0 P .any l.toArray Q fuel (listed.setIfInBounds i true) (a.put o.dst v) w' := by
        intro w' hs'
        refine ih _ _ w' hcnt ⟨by simpa using inv.size, ?_, ?_, ?_, ?_, ?_, ?_⟩ hs'
        · intro j oj hj hjl e he hb
          by_cases hij : i = j
          · subst hij
            rw [ho'] at hj; cases hj
            exact getD_set_true (hiall e he hb)
          · rw [getD_set_ne false hij] at hjl
            exact getD_set_true (inv.closed j oj hj hjl e he hb)
        · intro t ht1 ht2
          rw [getD_set_ne true (by omega)]; exact inv.tail t ht1 ht2
        · simp only [Act.put]; cases o.dst <;> simp [inv.an]
        · simp only [Act.put]; cases o.dst <;> exact inv.ad
        · intro k u hk hkd
          have hne : ∀ d, o.dst = some d → d ≠ k := fun d hod h => hkd (mem_dstsOf.2 ⟨i, o, by rw [List.getElem?_take, if_pos him]; exact ho', by rw [hod, h]⟩)
          simp only [Act.put]
          cases hod : o.dst with
          | none => exact inv.base k u hk hkd
          | some d => simp only [Array.getElem?_setIfInBounds]; rw [if_neg (hne d hod)]; exact inv.base k u hk hkd
        · intro j oj d u hjm hj hod hu hjl
          have hdlt : d < n := hd d (mem_dstsOf.2 ⟨j, oj, by rw [List.getElem?_take, if_pos hjm]; exact hj, hod⟩)
          by_cases hij : i = j
          · subst hij
            rw [ho'] at hj; cases hj
            rw [hv] at hu; cases hu
            simp only [Act.put, hod, Array.getElem?_setIfInBounds, if_true, inv.an, hdlt]
          · rw [getD_set_ne false hij] at hjl
            have h1 := inv.done j oj d u hjm hj hod hu hjl
            simp only [Act.put]
            cases hod' : o.dst with
            | none => exact h1
            | some d' =>
              have hne : d' ≠ d := fun h => by
                subst h
                have e1 := look_heads (E := ([] : List (Nat × Value))) (vs := (List.range m).map fun q : Nat => Value.int .i64 (q : Int)) hnd (show (l.take m)[i]? = some o by rw [List.getElem?_take, if_pos him]; exact ho') hod' (v := Value.int .i64 i) (by simp [him])
                have e2 := look_heads (E := ([] : List (Nat × Value))) (vs := (List.range m).map fun q : Nat => Value.int .i64 (q : Int)) hnd (show (l.take m)[j]? = some oj by rw [List.getElem?_take, if_pos hjm]; exact hj) hod (v := Value.int .i64 j) (by simp [hjm])
                rw [e1] at e2
                simp at e2
                omega
              simp only [Array.getElem?_setIfInBounds]; rw [if_neg hne]; exact h1
      obtain ⟨mk, hmki⟩ : ∃ k, mks[i]? = some k := ⟨mks[i]'(by omega), by simp [hmk, him]⟩
      have hiun' : listed.getD i false = false := by
        have : i < listed.size := by rw [inv.size]; exact hilt
        simp [this] at hiun ⊢; exact hiun
      unfold wpOpIn
      simp only [ho]
      have hq := hH i o v mk him ho' hv hmki
      have go : ∀ p, cnt ch listed = p → ∀ p', cnt ch (listed.setIfInBounds i true) = p' → HC P w0 n D l (heads (l.take m) vals E) (Ls p) (Ls p') o v →
          (if Region.wanted o (yielded l.toArray a.tmps) = true then Oper.wpIn (FW ro) 0 P o a w (wpAnyIn (FW ro) 0 P Region.Mode.any l.toArray Q fuel (listed.setIfInBounds i true)) Q
            else (∀ f, o.about P w a.eval = some f → (FW ro).fn f) ∧ wpAnyIn (FW ro) 0 P Region.Mode.any l.toArray Q fuel (listed.setIfInBounds i true) (a.put o.dst undef) w) := by
        intro p hp p' hp' hq
        rcases hq with ⟨hwt, hq⟩ | ⟨hwf, hq, hpp⟩
        · rw [hyield, wantE_spec hfillE hwt, if_pos rfl]
          refine ⟨fun _ _ => trivial, ?_⟩
          have hnd' : ∀ c, o.op ≠ .defer c := not_defer (by simpa using hndf)
          rw [Oper.semAt_eq _ _ _ hnd', execOp_congr o (fun cs b e => by rw [e] at hnsel; simp [isSelect] at hnsel) hsame]
          have hq' := hq _ w hfillE (hp ▸ hs)
          revert hq'
          generalize (execOp (fill a (l.take m) vals).eval o).run P w = r
          intro hq'
          cases r with
          | ok x w' =>
            cases x with
            | value u => obtain ⟨h1, h2⟩ := hq'; subst h1; exact hnext w' (hp'.symm ▸ h2)
            | skip => obtain ⟨h1, h2⟩ := hq'; subst h1; exact hnext w' (hp'.symm ▸ h2)
            | enter f args =>
              refine ⟨fun h => (by cases h), callsFW.2 (hq'.mono ?_)⟩
              rintro e w'' ⟨rfl, h2⟩
              exact hnext w'' (hp'.symm ▸ h2)
            | _ => exact hq'.elim
          | halt x w' => exact hq'.elim
        · subst hq
          rw [hyield, wantE_spec hfillE hwf, if_neg (by simp)]
          exact ⟨fun _ _ => trivial, hnext w (hp'.symm ▸ hpp w (hp ▸ hs))⟩
      have hinv := inv.closed
      have hcl : ∀ x, waitsB l l.length i x = true → listed.getD x false = true := fun x hx => waitsB_listed inv.closed _ i x hx ⟨o, ho', hiall⟩
      have hcr : ∀ x, waitsB l l.length x i = true → listed.getD x false = false := fun x hx => by
        cases hlx : listed.getD x false with
        | false => rfl
        | true =>
          have hxl : x < l.length := by
            rcases Nat.lt_or_ge x listed.size with h | h
            · rw [← inv.size]; exact h
            · simp [Array.getElem?_eq_none h] at hlx
          have := waitsB_listed inv.closed _ x i hx ⟨l[x], by simp [hxl], fun e he hb => inv.closed x l[x] (by simp [hxl]) hlx e he hb⟩
          rw [hiun'] at this; cases this
      have hok2 := chOK_at hch him hmki
      cases mk with
      | fl =>
        have hp : cnt ch listed ≤ ch.length := List.countP_le_length
        have he : cnt ch (listed.setIfInBounds i true) = cnt ch listed := cnt_other hok2
        refine go _ rfl _ he ?_
        rcases hq with ⟨h1, h2⟩ | ⟨h1, h2⟩
        · exact .inl ⟨h1, fun a w he' hs' => by
            have := h2 a w he' (hS _ hp w hs') o.dst o.pos o.after o.guard
            rw [show (⟨o.dst, o.op, o.type, o.pos, o.after, o.guard⟩ : Oper) = o from rfl] at this
            rw [this]; exact ⟨rfl, hs'⟩⟩
        · exact .inr ⟨h1, h2, fun _ h => h⟩
      | pin p =>
        obtain ⟨hni, hpl, h1, h2⟩ := hok2
        have hp : cnt ch listed = p := cnt_eq hpl (fun j c hj hc => hcl c (h1 j c hj hc)) (fun j c hj hc => hcr c (h2 j c hj hc))
        have he : cnt ch (listed.setIfInBounds i true) = p := by rw [cnt_other hni]; exact hp
        exact go p hp p he hq
      | ch j =>
        obtain ⟨hji, h1, h2⟩ := hok2
        have hjl : j < ch.length := (List.getElem?_eq_some_iff.1 hji).1
        have hp : cnt ch listed = j := cnt_eq (by omega) (fun k c hk hc => hcl c (h1 k c hk hc)) (fun k c hk hc => by
          rcases Nat.lt_or_ge j k with h | h
          · exact hcr c (h2 k c h hc).1
          · have : k = j := by omega
            subst this; rw [hji] at hc; cases hc; exact hiun')
        have hsz : i < listed.size := by rw [inv.size]; exact hilt
        have he : cnt ch (listed.setIfInBounds i true) = j + 1 := cnt_eq (by omega) (fun k c hk hc => by
          rcases Nat.lt_or_ge k j with h | h
          · exact getD_set_true (hcl c (h1 k c h hc))
          · have : k = j := by omega
            subst this; rw [hji] at hc; cases hc; simp [hsz]) (fun k c hk hc => by
          have h3 := h2 k c (by omega) hc
          rw [getD_set_ne false (fun h => h3.2 h)]; exact hcr c h3.1)
        exact go j hp (j + 1) he hq

end

/-- The operations ahead, each with its value and its place. -/
def HeadsC (P : Program) (w0 : World) (n : Nat) (D : List Deferred) (l0 : List Oper) (E1 : List (Nat × Value)) (S : List SP) (Ls : Nat → List SP) : List Oper → List Value → List Mk → Prop
  | [], [], [] => True
  | o :: os, v :: vs, k :: ks => HK P w0 n D l0 E1 S Ls o v k ∧ HeadsC P w0 n D l0 E1 S Ls os vs ks
  | _, _, _ => False
section
variable {w0 : World} {n : Nat} {D : List Deferred} {E E' E1 : List (Nat × Value)} {L L' R As S : List SP} {Ls : Nat → List SP} {ls : List (List SP)} {P : Program} {ro : Option Nat} {Q : Exit → Act → World → Prop} {l0 l : List Oper}
theorem hc_nil : HeadsC P w0 n D l0 E1 S Ls [] [] [] := trivial
theorem hc_cons {o : Oper} {os : List Oper} {v : Value} {vs : List Value} {k : Mk} {ks : List Mk} (h : HK P w0 n D l0 E1 S Ls o v k) (t : HeadsC P w0 n D l0 E1 S Ls os vs ks) : HeadsC P w0 n D l0 E1 S Ls (o :: os) (v :: vs) (k :: ks) := ⟨h, t⟩
theorem headsC_get {os : List Oper} : ∀ {vs : List Value} {ks : List Mk} {j : Nat} {o : Oper} {v : Value} {k : Mk}, HeadsC P w0 n D l0 E1 S Ls os vs ks → os[j]? = some o → vs[j]? = some v → ks[j]? = some k → HK P w0 n D l0 E1 S Ls o v k := by
  induction os with
  | nil => intro vs ks j o v k _ h; simp at h
  | cons o' os ih =>
    intro vs ks j o v k h h1 h2 h3
    cases vs with
    | nil => simp at h2
    | cons u vs => cases ks with
      | nil => simp at h3
      | cons k' ks =>
        obtain ⟨ha, hb⟩ := h
        cases j with
        | zero => simp at h1 h2 h3; subst h1; subst h2; subst h3; exact ha
        | succ j => exact ih hb (by simpa using h1) (by simpa using h2) (by simpa using h3)
theorem headsC_len {os : List Oper} : ∀ {vs : List Value} {ks : List Mk}, HeadsC P w0 n D l0 E1 S Ls os vs ks → os.length = vs.length ∧ os.length = ks.length := by
  induction os with
  | nil => intro vs ks h; cases vs <;> cases ks <;> first | exact ⟨rfl, rfl⟩ | exact h.elim
  | cons o os ih => intro vs ks h; cases vs with
    | nil => exact h.elim
    | cons v vs => cases ks with
      | nil => exact h.elim
      | cons k ks => obtain ⟨a, b⟩ := ih h.2; simp [a, ← b]
def phO : List (List SP) → Nat → Option (List SP)
  | [], _ => none
  | a :: _, 0 => some a
  | _ :: l, p + 1 => phO l p
def phs (l : List (List SP)) (p : Nat) : List SP := (phO l p).getD []
theorem phs_of {l : List (List SP)} {p : Nat} {L : List SP} (h : phO l p = some L) : phs l p = L := by simp [phs, h]
/-- Each phase holds what stays. -/
inductive Holds (S : List SP) : List (List SP) → Prop
  | nil : Holds S []
  | cons {A R : List SP} {l : List (List SP)} : Takes A S R → Holds S l → Holds S (A :: l)
theorem Holds.at {S : List SP} {l : List (List SP)} (h : Holds S l) : ∀ p, p < l.length → ∀ w, St w0 (phs l p) w → St w0 S w := by
  induction h with
  | nil => intro p hp; simp at hp
  | cons t _ ih => intro p hp w hs; cases p with
    | zero => exact hs.sub t
    | succ p => exact ih p (by simpa using hp) w hs
/-- **A statement whose order is open**: its first m operations read, or turn memory one behind the other (the chain); the others follow one behind the other. -/
theorem j_drawC {id : Nat} (m : Nat) (ch : List Nat) (mks : List Mk) (S : List SP) (ls : List (List SP)) {hd tl : List Oper} {vals : List Value} (hm : P.follows .mixedOrders = true) (hB : drawOK l m = true) (hC : chOK l m ch mks = true) (hsp : split2 m l = some (hd, tl)) (hdn : (dstsOf hd).all (Nat.blt · n) = true)
    (h0 : phO ls 0 = some L) (_hS0 : Takes L S R) (hh : HeadsC P w0 n D l (heads hd vals E) S (phs ls) hd vals mks) (hS : Holds S ls) (hln : ls.length = ch.length + 1) (hL' : phO ls ch.length = some L') (ht : J w0 n D (heads hd vals E) L' (O ro P l.toArray tl Q)) : J w0 n D E L (W ro P (.region id l.toArray true) Q) := fun a w he hs => by
  obtain ⟨hml, e1, e2⟩ := split2_spec hsp
  subst e1; subst e2
  have h0 := phs_of h0
  have hL' := phs_of hL'

  subst h0; subst hL'
  simp only [drawOK, Bool.and_eq_true] at hB
  obtain ⟨⟨⟨⟨_, hnd⟩, hok⟩, hord⟩, hw⟩ := hB
  have hlen := headsC_len hh
  have hlt : (l.take m).length = m := by simp; omega
  refine wpIn_region_any hm ?_
  have hsz : l.toArray.size = l.length := by simp
  rw [hsz]
  refine head_anyC (m := m) (vals := vals) (E := E) (S := S) (Ls := phs ls) (ch := ch) (mks := mks) hml hnd ?_ ?_ ?_ ?_ (by rw [← hlen.1, hlt]) ?_ (by rw [← hlen.2, hlt]) (fun p hp => hS.at p (by omega)) hC ht l.length _ a _ (by simp) ?_ ?_
  · intro j o hj ho
    exact List.all_eq_true.1 hok o (List.mem_of_getElem? (i := j) (by rw [List.getElem?_take, if_pos hj]; exact ho))
  · intro j o ho e hem hb
    have hjl : j < l.length := (List.getElem?_eq_some_iff.1 ho).1
    have h1 := List.all_eq_true.1 hord j (by simpa using hjl)
    simp only [ho] at h1
    have h2 := List.all_eq_true.1 h1 e (by simpa using hem)
    simp only [binds', hb, Bool.not_true, Bool.false_or] at h2
    simpa [Nat.blt_eq] using h2
  · intro t ht1 ht2 i hi
    have h1 := List.all_eq_true.1 hw t (by simpa using ht2)
    have h2 : Nat.blt t m = false := by
      cases h : Nat.blt t m with
      | false => rfl
      | true => have : t < m := by simpa [Nat.blt_eq] using h
                omega
    rw [h2, Bool.false_or] at h1
    exact List.all_eq_true.1 h1 i (by simpa using hi)
  · intro d hdm
    have := List.all_eq_true.1 hdn d hdm
    simpa [Nat.blt_eq] using this
  · intro j o v k hj ho hv hk
    exact headsC_get hh (j := j) (by rw [List.getElem?_take, if_pos hj]; exact ho) hv hk
  · refine ⟨by simp, fun j o _ h => ?_, fun t _ ht2 => ?_, he.size, he.defers, fun k v hk _ => he.get k v hk, fun j o d v _ _ _ _ h => ?_⟩
    · exfalso
      rcases Nat.lt_or_ge j l.length with h' | h' <;> simp [h'] at h
    · simp [ht2]
    · exfalso
      rcases Nat.lt_or_ge j l.length with h' | h' <;> simp [h'] at h
  · have h0 : cnt ch (Array.replicate l.length false) = 0 := cnt_eq (Nat.zero_le _) (fun j c hj => by omega) (fun j c _ _ => by
      rcases Nat.lt_or_ge c l.length with h' | h' <;> simp [h'])
    rw [h0]; exact hs.drew

theorem hk_fl {o : Oper} {v : Value} (hp : PV P w0 n D E1 S o.op o.type v) (hw : wantE l0 E1 o.guard = some true := by rfl) : HK P w0 n D l0 E1 S Ls o v .fl := .inl ⟨hw, hp⟩
theorem hk_flskip {o : Oper} (hw : wantE l0 E1 o.guard = some false := by rfl) : HK P w0 n D l0 E1 S Ls o undef .fl := .inr ⟨hw, rfl⟩
theorem hk_pin {o : Oper} {v : Value} {p : Nat} {L : List SP} (hL : phO ls p = some L) (hp : PV P w0 n D E1 L o.op o.type v) (hw : wantE l0 E1 o.guard = some true := by rfl) : HK P w0 n D l0 E1 S (phs ls) o v (.pin p) := by
  have hL := phs_of hL; subst hL
  exact .inl ⟨hw, fun a w he hs => by
    have := hp a w he hs o.dst o.pos o.after o.guard
    rw [show (⟨o.dst, o.op, o.type, o.pos, o.after, o.guard⟩ : Oper) = o from rfl] at this
    rw [this]; exact ⟨rfl, hs⟩⟩
theorem hk_pincall {x : Operand} {args : List Operand} {tys : Array TypeId} {T : TypeId} {f : FuncId} {fs vs cs as : List Value} {d : Option Nat} {pos : String} {af : Array Edge} {g : Option (Nat × Bool)} {Pre Qs : List SP} {v : Value} {p : Nat} {L R : List SP} (hL : phO ls p = some L)
    (hx : ev E1 x = some (.func (.func f) fs.toArray cs.toArray)) (hv : evs E1 args = some vs) (ha : fs ++ vs ++ cs = as) (hf : IsFn P f) (t : Takes L Pre R) (t' : Takes L Qs R) (hc : FnD P w0 f as Pre v Qs)
    (hw : wantE l0 E1 g = some true := by rfl) : HK P w0 n D l0 E1 S (phs ls) ⟨d, .call ⟨.value x, args.toArray, tys⟩, T, pos, af, g⟩ v (.pin p) := by
  have hL := phs_of hL; subst hL
  exact .inl ⟨hw, fun a w he hs => by
    rw [run_call he hx hv ha hf]
    refine (hc R w (hs.takes t)).mono ?_
    rintro e w' ⟨rfl, hs'⟩
    exact ⟨rfl, hs'.imp fun _ H => t'.unsep H⟩⟩
theorem hk_call {x : Operand} {args : List Operand} {tys : Array TypeId} {T : TypeId} {f : FuncId} {fs vs cs as : List Value} {d : Option Nat} {pos : String} {af : Array Edge} {g : Option (Nat × Bool)} {Pre Qs : List SP} {v : Value} {j : Nat} {L L' R : List SP} (hL : phO ls j = some L) 
    (hx : ev E1 x = some (.func (.func f) fs.toArray cs.toArray)) (hv : evs E1 args = some vs) (ha : fs ++ vs ++ cs = as) (hf : IsFn P f) (t : Takes L Pre R) (ap : App Qs R L') (hc : FnD P w0 f as Pre v Qs) (hL' : phO ls (j + 1) = some L')
    (hw : wantE l0 E1 g = some true := by rfl) : HK P w0 n D l0 E1 S (phs ls) ⟨d, .call ⟨.value x, args.toArray, tys⟩, T, pos, af, g⟩ v (.ch j) := by
  have hL := phs_of hL; subst hL
  exact .inl ⟨hw, fun a w he hs => by
    rw [run_call he hx hv ha hf]
    refine (hc R w (hs.takes t)).mono ?_
    rintro e w' ⟨rfl, hs'⟩
    exact ⟨rfl, by rw [phs_of hL', ap.eq]; exact hs'⟩⟩
theorem hk_storeV {T R' : TypeId} {x y : Operand} {pos : String} {af : Array Edge} {g : Option (Nat × Bool)} {b o : Nat} {Tb : TypeId} {v : Value} {vs c c' : List Value} {j : Nat} {L L' : List SP} (hL : phO ls j = some L) (hx : ev E1 x = some (.pointer (some ⟨b, o, none⟩))) (hy : ev E1 y = some v) (hv : v.cells = vs.toArray) (hz : ∀ w, (sizeOf T).run P w = .ok vs.length w) (h1 : ones vs = true)
    (u : Upd L (cl b Tb c) (cl b Tb c') L') (ho : ovw c o vs = some c') (hL' : phO ls (j + 1) = some L') (hw : wantE l0 E1 g = some true := by rfl) : HK P w0 n D l0 E1 S (phs ls) ⟨none, .store T x y, R', pos, af, g⟩ undef (.ch j) := by
  have hL := phs_of hL; subst hL
  exact .inl ⟨hw, fun a w he hs => by
    obtain ⟨w', h, h'⟩ := storeAt_run (P := P) hv hz h1 ho u hs
    simp only [execOp, he.ev hx, he.ev hy, Sem.run_bind, h, Result.andThen, Sem.run_pure]
    exact ⟨rfl, by rw [phs_of hL']; exact h'⟩⟩
theorem hk_storeA {T R' : TypeId} {x y : Operand} {pos : String} {af : Array Edge} {g : Option (Nat × Bool)} {b o : Nat} {Tb : TypeId} {vs c c' : List Value} {j : Nat} {L L' : List SP} (hL : phO ls j = some L) (hx : ev E1 x = some (.pointer (some ⟨b, o, none⟩))) (hy : ev E1 y = some (.agg vs.toArray)) (hz : ∀ w, (sizeOf T).run P w = .ok vs.length w) (h1 : ones vs = true)
    (u : Upd L (cl b Tb c) (cl b Tb c') L') (ho : ovw c o vs = some c') (hL' : phO ls (j + 1) = some L') (hw : wantE l0 E1 g = some true := by rfl) : HK P w0 n D l0 E1 S (phs ls) ⟨none, .store T x y, R', pos, af, g⟩ undef (.ch j) := hk_storeV hL hx hy rfl hz h1 u ho hL' hw
theorem hk_store1 {T R' : TypeId} {x y : Operand} {pos : String} {af : Array Edge} {g : Option (Nat × Bool)} {b o : Nat} {Tb : TypeId} {v : Value} {c c' : List Value} {j : Nat} {L L' : List SP} (hL : phO ls j = some L) (hx : ev E1 x = some (.pointer (some ⟨b, o, none⟩))) (hy : ev E1 y = some v) (h1 : v.oneCell' = true) (hz : ∀ w, (sizeOf T).run P w = .ok 1 w)
    (u : Upd L (cl b Tb c) (cl b Tb c') L') (ho : ovw c o [v] = some c') (hL' : phO ls (j + 1) = some L') (hw : wantE l0 E1 g = some true := by rfl) : HK P w0 n D l0 E1 S (phs ls) ⟨none, .store T x y, R', pos, af, g⟩ undef (.ch j) := by
  have hc : v.cells = [v].toArray := by cases v <;> simp_all [Value.cells, Value.oneCell']
  have ho1 : ones [v] = true := by cases v <;> simp_all [ones, Value.oneCell']
  exact hk_storeV hL hx hy hc (by simpa using hz) ho1 u ho hL' hw
end
end Go.Z
