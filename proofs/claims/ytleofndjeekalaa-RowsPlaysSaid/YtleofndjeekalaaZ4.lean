/- The words of a small separation logic over the model: a statement whose order is open: reads and quiet calls ahead of a tail. -/
import Derived.Test.YtleofndjeekalaaZ3
namespace Go.Z
open Go Go.RowKit

def quietR (P : Program) (w0 : World) (L : List SP) (v : Value) : Result Next → Prop
  | .ok (.value u) w' => u = v ∧ St w0 L w'
  | .ok .skip w' => v = undef ∧ St w0 L w'
  | .ok (.enter f args) w' => Calls P f args w' fun e w'' => e = .returned v ∧ St w0 L w''
  | _ => False
/-- An operation of the head: one value, whatever has been done ahead of it. -/
def HQ (P : Program) (w0 : World) (n : Nat) (D : List Deferred) (l0 : List Oper) (E1 : List (Nat × Value)) (L : List SP) (o : Oper) (v : Value) : Prop :=
  (wantE l0 E1 o.guard = some true ∧ ∀ a w, EnvOK a n D E1 → St w0 L w → quietR P w0 L v ((execOp a.eval o).run P w)) ∨ (wantE l0 E1 o.guard = some false ∧ v = undef)
def Heads (P : Program) (w0 : World) (n : Nat) (D : List Deferred) (l0 : List Oper) (E1 : List (Nat × Value)) (L : List SP) : List Oper → List Value → Prop
  | [], [] => True
  | o :: os, v :: vs => HQ P w0 n D l0 E1 L o v ∧ Heads P w0 n D l0 E1 L os vs
  | _, _ => False
def heads : List Oper → List Value → List (Nat × Value) → List (Nat × Value)
  | o :: os, v :: vs, E => match o.dst with
    | some d => (d, v) :: heads os vs E
    | none => heads os vs E
  | _, _, E => E
def fill (a : Act) : List Oper → List Value → Act
  | o :: os, v :: vs => (fill a os vs).put o.dst v
  | _, _ => a

def binds' (e : Edge) : Bool := Region.binds .any e
def waitsB (l : List Oper) : Nat → Nat → Nat → Bool
  | 0, _, _ => false
  | f + 1, j, i => match l[j]? with
    | some o => o.after.toList.any fun e => binds' e && (Nat.beq e.on i || waitsB l f e.on i)
    | none => false
def nodupB : List Nat → Bool
  | [] => true
  | x :: xs => xs.all (fun y => !Nat.beq x y) && nodupB xs
def dstsOf : List Oper → List Nat
  | [] => []
  | o :: os => match o.dst with | some d => d :: dstsOf os | none => dstsOf os
def hasEdge (o : Oper) (j : Nat) : Bool := o.after.toList.any fun e => binds' e && Nat.beq e.on j
def isSelect : Op → Bool
  | .select _ _ => true
  | _ => false
def headOK (hd : List Oper) (m : Nat) (o : Oper) : Bool :=
  (o.op.operands.toList.all fun x => match x with
    | .tmp t => (List.range hd.length).all fun j => match hd[j]? with
      | some oj => match oj.dst with | some d => !Nat.beq d t || hasEdge o j | none => true
      | none => true
    | _ => true) && (match o.guard with | none => true | some (j, _) => Nat.blt j m && hasEdge o j) && !isDefer o.op && !isSelect o.op
def drawOK (l : List Oper) (m : Nat) : Bool :=
  Nat.ble m l.length && nodupB (dstsOf (l.take m)) && (l.take m).all (headOK (l.take m) m) &&
  ((List.range l.length).all fun j => match l[j]? with | some o => o.after.toList.all (fun e => !binds' e || Nat.blt e.on j) | none => true) &&
  ((List.range l.length).all fun t => Nat.blt t m || (List.range t).all fun i => waitsB l l.length t i)

section
variable {w0 : World} {n : Nat} {D : List Deferred} {E E' E1 : List (Nat × Value)} {L L' R As : List SP} {P : Program} {ro : Option Nat} {Q : Exit → Act → World → Prop} {l0 l : List Oper}

theorem fill_other {k : Nat} : ∀ {os : List Oper} {vs : List Value} {a : Act}, k ∉ dstsOf os → (fill a os vs).tmps[k]? = a.tmps[k]? := by
  intro os
  induction os with
  | nil => intro vs a _; cases vs <;> rfl
  | cons o os ih =>
    intro vs a hk
    cases vs with
    | nil => rfl
    | cons v vs =>
      simp only [fill, Act.put]
      cases hd : o.dst with
      | none => simp only [dstsOf, hd] at hk; exact ih hk
      | some d =>
        simp only [dstsOf, hd, List.mem_cons, not_or] at hk
        simp only [Array.getElem?_setIfInBounds]
        rw [if_neg (fun h => hk.1 h.symm)]
        exact ih hk.2
theorem fill_size {os : List Oper} : ∀ {vs : List Value} {a : Act}, (fill a os vs).tmps.size = a.tmps.size ∧ (fill a os vs).defers = a.defers := by
  induction os with
  | nil => intro vs a; cases vs <;> exact ⟨rfl, rfl⟩
  | cons o os ih =>
    intro vs a
    cases vs with
    | nil => exact ⟨rfl, rfl⟩
    | cons v vs => simp only [fill, Act.put]; cases o.dst <;> simp [ih]
theorem fill_env : ∀ {os : List Oper} {vs : List Value} {a : Act}, os.length = vs.length → a.tmps.size = n → a.defers = D → (∀ d ∈ dstsOf os, d < n) → (∀ k v, look E k = some v → k ∉ dstsOf os → a.tmps[k]? = some v) → EnvOK (fill a os vs) n D (heads os vs E) := by
  intro os vs a hl hn hD hd hb
  refine ⟨fill_size.1.trans hn, fill_size.2.trans hD, ?_⟩
  suffices h : ∀ (os : List Oper) (vs : List Value), os.length = vs.length → (∀ d ∈ dstsOf os, d < n) → ∀ k v, look (heads os vs E) k = some v → (fill a os vs).tmps[k]? = some v ∨ (look E k = some v ∧ k ∉ dstsOf os) by
    intro k v hk
    rcases h os vs hl hd k v hk with h | ⟨h1, h2⟩
    · exact h
    · rw [fill_other h2]; exact hb k v h1 h2
  intro os
  induction os with
  | nil => intro vs _ _ k v hk; right; cases vs <;> exact ⟨hk, by simp [dstsOf]⟩
  | cons o os ih =>
    intro vs hl hd k v hk
    cases vs with
    | nil => simp at hl
    | cons u vs =>
      simp only [List.length_cons, Nat.add_right_cancel_iff] at hl
      cases ho : o.dst with
      | none =>
        simp only [heads, ho] at hk
        simp only [dstsOf, ho] at hd ⊢
        rcases ih vs hl hd k v hk with h | h
        · left; simp only [fill, Act.put, ho]; exact h
        · right; exact h
      | some d =>
        simp only [heads, ho, look] at hk
        simp only [dstsOf, ho, List.mem_cons] at hd ⊢
        split at hk
        · rename_i e; cases hk
          have := Nat.eq_of_beq_eq_true e
          subst this
          left
          simp only [fill, Act.put, ho, Array.getElem?_setIfInBounds, if_true]
          rw [if_pos (by rw [fill_size.1, hn]; exact hd d (.inl rfl))]
        · rename_i e
          have hne : d ≠ k := fun h => by rw [h, Nat.beq_refl] at e; cases e
          rcases ih vs hl (fun x hx => hd x (.inr hx)) k v hk with h | ⟨h1, h2⟩
          · left; simp only [fill, Act.put, ho, Array.getElem?_setIfInBounds]; rw [if_neg hne]; exact h
          · right; exact ⟨h1, by simp only [not_or]; exact ⟨fun h => hne h.symm, h2⟩⟩
theorem mem_dstsOf {os : List Oper} {d : Nat} : d ∈ dstsOf os ↔ ∃ (j : Nat) (o : Oper), os[j]? = some o ∧ o.dst = some d := by
  induction os with
  | nil => simp [dstsOf]
  | cons o os ih =>
    have : (∃ (j : Nat) (o' : Oper), (o :: os)[j]? = some o' ∧ o'.dst = some d) ↔ o.dst = some d ∨ ∃ (j : Nat) (o' : Oper), os[j]? = some o' ∧ o'.dst = some d := by
      constructor
      · rintro ⟨j, o', h1, h2⟩
        cases j with
        | zero => simp at h1; subst h1; exact .inl h2
        | succ j => exact .inr ⟨j, o', by simpa using h1, h2⟩
      · rintro (h | ⟨j, o', h1, h2⟩)
        · exact ⟨0, o, by simp, h⟩
        · exact ⟨j + 1, o', by simpa using h1, h2⟩
    rw [this]
    simp only [dstsOf]
    cases ho : o.dst with
    | none => simp [ih]
    | some e => simp only [List.mem_cons, ih, Option.some.injEq]; constructor <;> rintro (h | h) <;> first | exact .inl h.symm | exact .inr h
theorem look_heads : ∀ {os : List Oper} {vs : List Value} {j : Nat} {o : Oper} {d : Nat} {v : Value}, nodupB (dstsOf os) = true → os[j]? = some o → o.dst = some d → vs[j]? = some v → look (heads os vs E) d = some v := by
  intro os
  induction os with
  | nil => intro vs j o d v _ h; simp at h
  | cons o' os ih =>
    intro vs j o d v hn h1 h2 h3
    cases vs with
    | nil => simp at h3
    | cons u vs =>
      cases j with
      | zero =>
        simp at h1 h3; subst h1; subst h3
        simp only [heads, h2, look, Nat.beq_refl]
      | succ j =>
        simp only [List.getElem?_cons_succ] at h1 h3
        cases ho : o'.dst with
        | none =>
          simp only [dstsOf, ho] at hn
          simp only [heads, ho]; exact ih hn h1 h2 h3
        | some e =>
          simp only [dstsOf, ho, nodupB, Bool.and_eq_true] at hn
          have hm : d ∈ dstsOf os := mem_dstsOf.2 ⟨j, o, h1, h2⟩
          have := List.all_eq_true.1 hn.1 d hm
          simp only [heads, ho, look]
          have : Nat.beq e d = false := by simpa using this
          rw [this]
          exact ih hn.2 h1 h2 h3
theorem waitsB_listed {listed : Array Bool} (hcl : ∀ j o, l[j]? = some o → listed.getD j false = true → ∀ e ∈ o.after, Region.binds .any e = true → listed.getD e.on false = true) :
    ∀ (f j i : Nat), waitsB l f j i = true → (∃ o, l[j]? = some o ∧ ∀ e ∈ o.after, Region.binds .any e = true → listed.getD e.on false = true) → listed.getD i false = true := by
  intro f
  induction f with
  | zero => intro j i h; simp [waitsB] at h
  | succ f ih =>
    intro j i h ⟨o, ho, hall⟩
    simp only [waitsB, ho, List.any_eq_true, Bool.and_eq_true, Bool.or_eq_true] at h
    obtain ⟨e, he, hb, h⟩ := h
    have he' : e ∈ o.after := by simpa using he
    have hl := hall e he' hb
    rcases h with h | h
    · rw [← Nat.eq_of_beq_eq_true h]; exact hl
    · refine ih e.on i h ?_
      cases hk : l[e.on]? with
      | none => cases f with
        | zero => simp [waitsB] at h
        | succ f => simp [waitsB, hk] at h
      | some o' => exact ⟨o', rfl, hcl _ _ hk hl⟩
theorem count_set {l : List Bool} {i : Nat} (h : l[i]? = some false) : (l.set i true).count false + 1 = l.count false := by
  induction l generalizing i with
  | nil => simp at h
  | cons b l ih =>
    cases i with
    | zero => simp at h; subst h; simp
    | succ i => simp only [List.getElem?_cons_succ] at h; simp only [List.set_cons_succ, List.count_cons]; have := ih h; omega

theorem tail_any {m : Nat} (hord : ∀ j o, l[j]? = some o → ∀ e ∈ o.after, Region.binds .any e = true → e.on < j) (hw : ∀ t, m ≤ t → t < l.length → ∀ i, i < t → waitsB l l.length t i = true) :
    ∀ (fuel k : Nat) (listed : Array Bool) (a : Act) (w : World), m ≤ k → listed.size = l.length → (∀ j, j < k → j < l.length → listed.getD j false = true) → (∀ j, k ≤ j → j < l.length → listed.getD j true = false) → l.length ≤ k + fuel →
      wpListIn (FW ro) 0 P l.toArray Q (l.drop k) a w → wpAnyIn (FW ro) 0 P .any l.toArray Q fuel listed a w := by
  intro fuel
  induction fuel with
  | zero =>
    intro k listed a w _ hsz h1 h2 hf h
    have hk : l.length ≤ k := by omega
    rw [List.drop_eq_nil_of_le hk] at h
    refine ⟨?_, h⟩
    apply List.eq_nil_iff_forall_not_mem.2
    intro i hi
    obtain ⟨hun, o, ho, _⟩ := mem_ready.1 hi
    have hlt : i < l.length := by have := (Array.getElem?_eq_some_iff.1 ho).1; simpa using this
    have := h1 i (by omega) hlt
    simp [hsz, hlt] at hun this
    rw [hun] at this; cases this
  | succ fuel ih =>
    intro k listed a w hmk hsz h1 h2 hf h
    rcases Nat.lt_or_ge k l.length with hk | hk
    · have hkr : k ∈ Region.ready .any l.toArray listed := by
        refine mem_ready.2 ⟨h2 k (Nat.le_refl _) hk, l[k], by simp [hk], fun e he hb => ?_⟩
        have := hord k l[k] (by simp [hk]) e he hb
        exact h1 _ this (by omega)
      refine ⟨fun h0 => (by rw [h0] at hkr; cases hkr), fun i hi => ?_⟩
      obtain ⟨hun, o, ho, hall⟩ := mem_ready.1 hi
      have ho' : l[i]? = some o := by simpa using ho
      have hlt : i < l.length := (List.getElem?_eq_some_iff.1 ho').1
      have hik : k ≤ i := by
        rcases Nat.lt_or_ge i k with h' | h'
        · have := h1 i h' hlt
          simp [hsz, hlt] at hun this
          rw [hun] at this; cases this
        · exact h'
      have hik' : i = k := by
        rcases Nat.lt_or_ge k i with h' | h'
        · have hcl : ∀ j o, l[j]? = some o → listed.getD j false = true → ∀ e ∈ o.after, Region.binds .any e = true → listed.getD e.on false = true := by
            intro j oj hj hjl e he hb
            have hjlt : j < l.length := (List.getElem?_eq_some_iff.1 hj).1
            have hjk : j < k := by
              rcases Nat.lt_or_ge j k with h'' | h''
              · exact h''
              · have := h2 j h'' hjlt
                simp [hsz, hjlt] at hjl this
                rw [hjl] at this; cases this
            have := hord j oj hj e he hb
            exact h1 _ (by omega) (by omega)
          have := waitsB_listed hcl _ i k (hw i (by omega) hlt k h') ⟨o, ho', hall⟩
          have h3 := h2 k (Nat.le_refl _) hk
          simp [hsz, hk] at this h3
          rw [this] at h3; cases h3
        · omega
      subst hik'
      have hdrop : l.drop i = o :: l.drop (i + 1) := by
        rw [List.drop_eq_getElem_cons hlt]
        congr 1
        rw [List.getElem?_eq_getElem hlt] at ho'; exact Option.some.inj ho'
      rw [hdrop] at h
      have hop : wpOpIn (FW ro) 0 P l.toArray Q i (wpListIn (FW ro) 0 P l.toArray Q (l.drop (i + 1))) a w := by
        unfold wpOpIn; simp only [ho]; exact h
      refine wpOpIn_mono (fun a' w' h' => ih (i + 1) _ a' w' (by omega) (by simpa using hsz) ?_ ?_ (by omega) h') hop
      · intro j hj hjl
        rcases Nat.lt_or_ge j i with h' | h'
        · exact getD_set_true (h1 j h' hjl)
        · have : j = i := by omega
          subst this; simp [hsz, hjl]
      · intro j hj hjl
        rw [getD_set_ne true (by omega)]
        exact h2 j (by omega) hjl
    · rw [List.drop_eq_nil_of_le hk] at h
      refine ⟨fun _ => h, fun i hi => ?_⟩
      obtain ⟨hun, o, ho, _⟩ := mem_ready.1 hi
      have hlt : i < l.length := by have := (Array.getElem?_eq_some_iff.1 ho).1; simpa using this
      have := h1 i (by omega) hlt
      simp [hsz, hlt] at hun this
      rw [hun] at this; cases this

structure DrawInv (l : List Oper) (m n : Nat) (D : List Deferred) (E : List (Nat × Value)) (vals : List Value) (listed : Array Bool) (a : Act) : Prop where
  size : listed.size = l.length
  closed : ∀ j o, l[j]? = some o → listed.getD j false = true → ∀ e ∈ o.after, Region.binds .any e = true → listed.getD e.on false = true
  tail : ∀ t, m ≤ t → t < l.length → listed.getD t true = false
  an : a.tmps.size = n
  ad : a.defers = D
  base : ∀ k v, look E k = some v → k ∉ dstsOf (l.take m) → a.tmps[k]? = some v
  done : ∀ j o d v, j < m → l[j]? = some o → o.dst = some d → vals[j]? = some v → listed.getD j false = true → a.tmps[d]? = some v

theorem head_any {m : Nat} {vals : List Value} (hm : m ≤ l.length) (hnd : nodupB (dstsOf (l.take m)) = true) (hok : ∀ j o, j < m → l[j]? = some o → headOK (l.take m) m o = true)
    (hord : ∀ j o, l[j]? = some o → ∀ e ∈ o.after, Region.binds .any e = true → e.on < j) (hw : ∀ t, m ≤ t → t < l.length → ∀ i, i < t → waitsB l l.length t i = true)
    (hd : ∀ d ∈ dstsOf (l.take m), d < n) (hvl : vals.length = m) (hH : ∀ j o v, j < m → l[j]? = some o → vals[j]? = some v → HQ P w0 n D l (heads (l.take m) vals E) L o v)
    (ht : J w0 n D (heads (l.take m) vals E) L (O ro P l.toArray (l.drop m) Q)) :
    ∀ (fuel : Nat) (listed : Array Bool) (a : Act) (w : World), listed.toList.count false ≤ fuel → DrawInv l m n D E vals listed a → St w0 L w → wpAnyIn (FW ro) 0 P .any l.toArray Q fuel listed a w := by
  have hcntlen : ∀ listed : Array Bool, ∀ i, listed.getD i true = false → 0 < listed.toList.count false := by
    intro listed i hi
    rcases Nat.lt_or_ge i listed.size with h | h
    · simp [h] at hi
      exact List.count_pos_iff.2 (by rw [← hi]; simp)
    · simp [Array.getElem?_eq_none h] at hi
  intro fuel
  induction fuel with
  | zero =>
    intro listed a w hc inv hs
    have hall : ∀ i, i < l.length → listed.getD i false = true := by
      intro i hi
      have hi' : i < listed.size := by rw [inv.size]; exact hi
      cases h : listed.getD i false with
      | true => rfl
      | false => have := hcntlen listed i (by simp [hi'] at h ⊢; exact h); omega
    have hml : l.length ≤ m := by
      rcases Nat.lt_or_ge m l.length with h | h
      · have h1 := inv.tail m (Nat.le_refl _) h
        have h2 := hall m h
        have : m < listed.size := by rw [inv.size]; exact h
        simp [this] at h1 h2; rw [h1] at h2; cases h2
      · exact h
    refine tail_any (m := m) hord hw 0 l.length listed a w hm inv.size (fun j _ hj => hall j hj) (fun j h1 h2 => by omega) (by omega) ?_
    have hE : EnvOK a n D (heads (l.take m) vals E) := by
      have h1 := fill_env (n := n) (D := D) (E := E) (os := l.take m) (vs := vals) (a := a) (by simp; omega) inv.an inv.ad hd inv.base
      refine ⟨inv.an, inv.ad, fun k v hk => ?_⟩
      by_cases hkd : k ∈ dstsOf (l.take m)
      · obtain ⟨j, o, hj, hod⟩ := mem_dstsOf.1 hkd
        have hjm : j < m := by have := (List.getElem?_eq_some_iff.1 hj).1; simp at this; omega
        have hj' : l[j]? = some o := by rw [List.getElem?_take, if_pos hjm] at hj; exact hj
        obtain ⟨u, hu⟩ : ∃ u, vals[j]? = some u := ⟨vals[j]'(by omega), by simp [hvl, hjm]⟩
        have := look_heads (E := E) hnd hj hod hu
        rw [this] at hk; cases hk
        exact inv.done j o k _ hjm hj' hod hu (hall j (by omega))
      · have := h1.get k v hk; rwa [fill_other hkd] at this
    have := ht a w hE hs
    have hdl : l.drop m = l.drop l.length := by rw [List.drop_eq_nil_of_le hml, List.drop_eq_nil_of_le (Nat.le_refl _)]
    rw [hdl] at this; exact this
  | succ fuel ih =>
    intro listed a w hc inv hs
    have hfillE : EnvOK (fill a (l.take m) vals) n D (heads (l.take m) vals E) := fill_env (by simp; omega) inv.an inv.ad hd inv.base
    by_cases hall : ∀ j, j < m → listed.getD j false = true
    · -- all heads are done
      refine tail_any (m := m) hord hw (fuel + 1) m listed a w (Nat.le_refl _) inv.size (fun j hj _ => hall j hj) inv.tail ?_ ?_
      · have : listed.toList.count false ≥ l.length - m := by
          have hsz := inv.size
          have htl := inv.tail
          have : listed.toList = listed.toList.take m ++ listed.toList.drop m := (List.take_append_drop _ _).symm
          rw [this, List.count_append]
          have h2 : (listed.toList.drop m).count false = (listed.toList.drop m).length := by
            rw [List.count_eq_length]
            intro b hb
            obtain ⟨j, hj⟩ := List.mem_iff_getElem?.1 hb
            rw [List.getElem?_drop] at hj
            have hjlt : m + j < l.length := by have := (List.getElem?_eq_some_iff.1 hj).1; simp [hsz] at this; exact this
            have h3 := htl (m + j) (by omega) hjlt
            have : m + j < listed.size := by omega
            simp [this] at h3 hj
            rw [← hj, h3]
          rw [h2]; simp [hsz]
        omega
      · refine ht a w ⟨inv.an, inv.ad, fun k v hk => ?_⟩ hs
        by_cases hkd : k ∈ dstsOf (l.take m)
        · obtain ⟨j, o, hj, hod⟩ := mem_dstsOf.1 hkd
          have hjm : j < m := by have := (List.getElem?_eq_some_iff.1 hj).1; simp at this; omega
          have hj' : l[j]? = some o := by rw [List.getElem?_take, if_pos hjm] at hj; exact hj
          obtain ⟨u, hu⟩ : ∃ u, vals[j]? = some u := ⟨vals[j]'(by omega), by simp [hvl, hjm]⟩
          have := look_heads (E := E) hnd hj hod hu
          rw [this] at hk; cases hk
          exact inv.done j o k _ hjm hj' hod hu (hall j hjm)
        · have := hfillE.get k v hk; rwa [fill_other hkd] at this
    · -- some head is open: the first one may come up
      have hex : ∃ j, j < m ∧ listed.getD j false = false ∧ ∀ i, i < j → listed.getD i false = true := by
        have : ∀ k, (∀ j, j < k → j < m → listed.getD j false = true) ∨ ∃ j, j < m ∧ listed.getD j false = false ∧ ∀ i, i < j → listed.getD i false = true := by
          intro k
          induction k with
          | zero => left; intro j hj; omega
          | succ k ihk =>
            rcases ihk with h | h
            · by_cases hkm : k < m
              · cases hk : listed.getD k false with
                | true => left; intro j hj hjm; rcases Nat.lt_or_ge j k with h' | h'
                          · exact h j h' hjm
                          · have : j = k := by omega
                            subst this; exact hk
                | false => right; exact ⟨k, hkm, hk, fun i hi => h i hi (by omega)⟩
              · left; intro j hj hjm; exact h j (by omega) hjm
            · exact .inr h
        rcases this m with h | h
        · exact absurd (fun j hj => h j hj hj) hall
        · exact h
      obtain ⟨j0, hj0, hj0f, hj0l⟩ := hex
      have hun : ∀ i, i < l.length → listed.getD i false = false → listed.getD i true = false := fun i hi h => by
        have : i < listed.size := by rw [inv.size]; exact hi
        simp [this] at h ⊢; exact h
      have hr0 : j0 ∈ Region.ready .any l.toArray listed := by
        have hlt : j0 < l.length := by omega
        refine mem_ready.2 ⟨hun j0 hlt hj0f, l[j0], by simp [hlt], fun e he hb => ?_⟩
        exact hj0l _ (hord j0 l[j0] (by simp [hlt]) e he hb)
      refine ⟨fun h0 => (by rw [h0] at hr0; cases hr0), fun i hi => ?_⟩
      obtain ⟨hiun, o, ho, hiall⟩ := mem_ready.1 hi
      have ho' : l[i]? = some o := by simpa using ho
      have hilt : i < l.length := (List.getElem?_eq_some_iff.1 ho').1
      have him : i < m := by
        rcases Nat.lt_or_ge i m with h | h
        · exact h
        · have := waitsB_listed inv.closed _ i j0 (hw i h hilt j0 (by omega)) ⟨o, ho', hiall⟩
          rw [hj0f] at this; cases this
      have hok' := hok i o him ho'
      simp only [headOK, Bool.and_eq_true] at hok'
      obtain ⟨⟨⟨hopr, hg⟩, hndf⟩, hnsel⟩ := hok'
      have hedge : ∀ j, hasEdge o j = true → listed.getD j false = true := fun j hj => by
        simp only [hasEdge, List.any_eq_true, Bool.and_eq_true] at hj
        obtain ⟨e, he, hb, hej⟩ := hj
        rw [← Nat.eq_of_beq_eq_true hej]; exact hiall e (by simpa using he) hb
      -- what a slot of the head holds, here and in the filled frame
      have hslot : ∀ j oj d, j < m → l[j]? = some oj → oj.dst = some d → hasEdge o j = true → a.tmps[d]? = (fill a (l.take m) vals).tmps[d]? := by
        intro j oj d hjm hj hod he
        obtain ⟨u, hu⟩ : ∃ u, vals[j]? = some u := ⟨vals[j]'(by omega), by simp [hvl, hjm]⟩
        rw [inv.done j oj d u hjm hj hod hu (hedge j he)]
        have hj' : (l.take m)[j]? = some oj := by rw [List.getElem?_take, if_pos hjm]; exact hj
        exact (hfillE.get d u (look_heads hnd hj' hod hu)).symm
      have hsame : ∀ x ∈ o.op.operands, a.eval x = (fill a (l.take m) vals).eval x := by
        intro x hx
        cases x with
        | tmp t =>
          have h1 := List.all_eq_true.1 hopr (.tmp t) (by simpa using hx)
          simp only [Act.eval, Array.getD_eq_getD_getElem?]
          by_cases htd : t ∈ dstsOf (l.take m)
          · obtain ⟨j, oj, hj, hod⟩ := mem_dstsOf.1 htd
            have hjl : j < (l.take m).length := (List.getElem?_eq_some_iff.1 hj).1
            have hjm : j < m := by simp at hjl; omega
            have h2 := List.all_eq_true.1 h1 j (by simpa using hjl)
            simp only [hj, hod, Nat.beq_refl, Bool.not_true, Bool.false_or] at h2
            rw [hslot j oj t hjm (by rw [List.getElem?_take, if_pos hjm] at hj; exact hj) hod h2]
          · rw [fill_other htd]
        | const v => rfl
        | global g => rfl
        | func f => rfl
      have hyield : Region.wanted o (yielded l.toArray a.tmps) = Region.wanted o (yielded l.toArray (fill a (l.take m) vals).tmps) := by
        unfold Region.wanted
        cases hgd : o.guard with
        | none => rfl
        | some p =>
          obtain ⟨j, want⟩ := p
          simp only [hgd, Bool.and_eq_true] at hg
          have hjm : j < m := by have := hg.1; simpa [Nat.blt_eq] using this
          have hjl : j < l.length := by omega
          simp only [yielded, List.getElem?_toArray]
          cases hod : (l[j]'hjl).dst with
          | none => simp [hjl, hod]
          | some d =>
            have := hslot j l[j] d hjm (by simp [hjl]) hod hg.2
            simp [hjl, hod, this]
      obtain ⟨v, hv⟩ : ∃ v, vals[i]? = some v := ⟨vals[i]'(by omega), by simp [hvl, him]⟩
      have hcnt : (listed.setIfInBounds i true).toList.count false ≤ fuel := by
        have h1 : listed.toList[i]? = some false := by
          have : i < listed.size := by rw [inv.size]; exact hilt
          simp [this] at hiun ⊢; exact hiun
        have := count_set h1
        simp only [Array.toList_setIfInBounds]
        omega
      -- what holds behind this operation
      have hnext : ∀ w', St w0 L w' → wpAnyIn (FW ro) 0 P .any l.toArray Q fuel (listed.setIfInBounds i true) (a.put o.dst v) w' := by
        intro w' hs'
        refine ih _ _ w' hcnt ⟨by simpa using inv.size, ?_, ?_, ?_, ?_, ?_, ?_⟩ hs'
        · intro j oj hj hjl e he hb
          by_cases hij : i = j
          · subst hij
            rw [ho'] at hj; cases hj
            exact getD_set_true (hiall e he hb)
          · rw [getD_set_ne false hij] at hjl
            exact getD_set_true (inv.closed j oj hj hjl e he hb)
        · intro t ht1 ht2
          rw [getD_set_ne true (by omega)]; exact inv.tail t ht1 ht2
        · simp only [Act.put]; cases o.dst <;> simp [inv.an]
        · simp only [Act.put]; cases o.dst <;> exact inv.ad
        · intro k u hk hkd
          have hne : ∀ d, o.dst = some d → d ≠ k := fun d hod h => hkd (mem_dstsOf.2 ⟨i, o, by rw [List.getElem?_take, if_pos him]; exact ho', by rw [hod, h]⟩)
          simp only [Act.put]
          cases hod : o.dst with
          | none => exact inv.base k u hk hkd
          | some d => simp only [Array.getElem?_setIfInBounds]; rw [if_neg (hne d hod)]; exact inv.base k u hk hkd
        · intro j oj d u hjm hj hod hu hjl
          have hdlt : d < n := hd d (mem_dstsOf.2 ⟨j, oj, by rw [List.getElem?_take, if_pos hjm]; exact hj, hod⟩)
          by_cases hij : i = j
          · subst hij
            rw [ho'] at hj; cases hj
            rw [hv] at hu; cases hu
            simp only [Act.put, hod, Array.getElem?_setIfInBounds, if_true, inv.an, hdlt]
          · rw [getD_set_ne false hij] at hjl
            have h1 := inv.done j oj d u hjm hj hod hu hjl
            simp only [Act.put]
            cases hod' : o.dst with
            | none => exact h1
            | some d' =>
              have hne : d' ≠ d := fun h => by
                subst h
                have e1 := look_heads (E := ([] : List (Nat × Value))) (vs := (List.range m).map fun q : Nat => Value.int .i64 (q : Int)) hnd (show (l.take m)[i]? = some o by rw [List.getElem?_take, if_pos him]; exact ho') hod' (v := Value.int .i64 i) (by simp [him])
                have e2 := look_heads (E := ([] : List (Nat × Value))) (vs := (List.range m).map fun q : Nat => Value.int .i64 (q : Int)) hnd (show (l.take m)[j]? = some oj by rw [List.getElem?_take, if_pos hjm]; exact hj) hod (v := Value.int .i64 j) (by simp [hjm])
                rw [e1] at e2
                simp at e2
                omega
              simp only [Array.getElem?_setIfInBounds]; rw [if_neg hne]; exact h1
      unfold wpOpIn
      simp only [ho]
      have hq := hH i o v him ho' hv
      rcases hq with ⟨hwt, hq⟩ | ⟨hwf, hq⟩
      · rw [hyield, wantE_spec hfillE hwt, if_pos rfl]
        refine ⟨fun _ _ => trivial, ?_⟩
        have hnd' : ∀ c, o.op ≠ .defer c := not_defer (by simpa using hndf)
        rw [Oper.semAt_eq _ _ _ hnd', execOp_congr o (fun cs b e => by rw [e] at hnsel; simp [isSelect] at hnsel) hsame]
        have hq' := hq _ w hfillE hs
        revert hq'
        generalize (execOp (fill a (l.take m) vals).eval o).run P w = r
        intro hq'
        cases r with
        | ok x w' =>
          cases x with
          | value u => obtain ⟨h1, h2⟩ := hq'; subst h1; exact hnext w' h2
          | skip => obtain ⟨h1, h2⟩ := hq'; subst h1; exact hnext w' h2
          | enter f args =>
            refine ⟨fun h => (by cases h), callsFW.2 (hq'.mono ?_)⟩
            rintro e w'' ⟨rfl, h2⟩
            exact hnext w'' h2
          | _ => exact hq'.elim
        | halt x w' => exact hq'.elim
      · subst hq
        rw [hyield, wantE_spec hfillE hwf, if_neg (by simp)]
        exact ⟨fun _ _ => trivial, hnext w hs⟩

theorem heads_get {os : List Oper} : ∀ {vs : List Value} {j : Nat} {o : Oper} {v : Value}, Heads P w0 n D l0 E1 L os vs → os[j]? = some o → vs[j]? = some v → HQ P w0 n D l0 E1 L o v := by
  induction os with
  | nil => intro vs j o v _ h; simp at h
  | cons o' os ih =>
    intro vs j o v h h1 h2
    cases vs with
    | nil => simp at h2
    | cons u vs =>
      obtain ⟨ha, hb⟩ := h
      cases j with
      | zero => simp at h1 h2; subst h1; subst h2; exact ha
      | succ j => exact ih hb (by simpa using h1) (by simpa using h2)
theorem heads_len {os : List Oper} : ∀ {vs : List Value}, Heads P w0 n D l0 E1 L os vs → os.length = vs.length := by
  induction os with
  | nil => intro vs h; cases vs with
    | nil => rfl
    | cons => exact h.elim
  | cons o os ih => intro vs h; cases vs with
    | nil => exact h.elim
    | cons v vs => simp [ih h.2]
def split2 : Nat → List Oper → Option (List Oper × List Oper)
  | 0, l => some ([], l)
  | _ + 1, [] => none
  | k + 1, o :: l => match split2 k l with
    | some (a, b) => some (o :: a, b)
    | none => none
theorem split2_spec : ∀ {m : Nat} {l hd tl : List Oper}, split2 m l = some (hd, tl) → m ≤ l.length ∧ hd = l.take m ∧ tl = l.drop m := by
  intro m
  induction m with
  | zero => intro l hd tl h; simp [split2] at h; simp [h]
  | succ m ih =>
    intro l hd tl h
    cases l with
    | nil => simp [split2] at h
    | cons o l =>
      simp only [split2] at h
      split at h
      · rename_i a b hab
        obtain ⟨h1, h2, h3⟩ := ih hab
        cases h
        simp [h1, h2, h3]
      · cases h
/-- **A statement whose order is open**: its first m operations only read (or call what leaves the pieces as they are); the others follow one behind the other. -/
theorem j_draw {id : Nat} (m : Nat) {hd tl : List Oper} {vals : List Value} (hm : P.follows .mixedOrders = true) (hB : drawOK l m = true) (hsp : split2 m l = some (hd, tl)) (hdn : (dstsOf hd).all (Nat.blt · n) = true)
    (hh : Heads P w0 n D l (heads hd vals E) L hd vals) (ht : J w0 n D (heads hd vals E) L (O ro P l.toArray tl Q)) : J w0 n D E L (W ro P (.region id l.toArray true) Q) := fun a w he hs => by
  obtain ⟨hml, e1, e2⟩ := split2_spec hsp
  subst e1; subst e2
  simp only [drawOK, Bool.and_eq_true] at hB
  obtain ⟨⟨⟨⟨_, hnd⟩, hok⟩, hord⟩, hw⟩ := hB
  have hlen := heads_len hh
  have hlen' : vals.length = m := by rw [← hlen]; simp; omega
  refine wpIn_region_any hm ?_
  have hsz : l.toArray.size = l.length := by simp
  rw [hsz]
  refine head_any (m := m) (vals := vals) (E := E) hml hnd ?_ ?_ ?_ ?_ hlen' ?_ ht l.length _ a _ (by simp) ?_ hs.drew
  · intro j o hj ho
    exact List.all_eq_true.1 hok o (List.mem_of_getElem? (i := j) (by rw [List.getElem?_take, if_pos hj]; exact ho))
  · intro j o ho e hem hb
    have hjl : j < l.length := (List.getElem?_eq_some_iff.1 ho).1
    have h1 := List.all_eq_true.1 hord j (by simpa using hjl)
    simp only [ho] at h1
    have h2 := List.all_eq_true.1 h1 e (by simpa using hem)
    simp only [binds', hb, Bool.not_true, Bool.false_or] at h2
    simpa [Nat.blt_eq] using h2
  · intro t ht1 ht2 i hi
    have h1 := List.all_eq_true.1 hw t (by simpa using ht2)
    have h2 : Nat.blt t m = false := by
      cases h : Nat.blt t m with
      | false => rfl
      | true => have : t < m := by simpa [Nat.blt_eq] using h
                omega
    rw [h2, Bool.false_or] at h1
    exact List.all_eq_true.1 h1 i (by simpa using hi)
  · intro d hdm
    have := List.all_eq_true.1 hdn d hdm
    simpa [Nat.blt_eq] using this
  · intro j o v hj ho hv
    exact heads_get hh (j := j) (by rw [List.getElem?_take, if_pos hj]; exact ho) hv
  · refine ⟨by simp, fun j o _ h => ?_, fun t _ ht2 => ?_, he.size, he.defers, fun k v hk _ => he.get k v hk, fun j o d v _ _ _ _ h => ?_⟩
    · exfalso
      rcases Nat.lt_or_ge j l.length with h' | h' <;> simp [h'] at h
    · simp [ht2]
    · exfalso
      rcases Nat.lt_or_ge j l.length with h' | h' <;> simp [h'] at h

theorem heads_nil {E1 : List (Nat × Value)} : Heads P w0 n D l0 E1 L [] [] := trivial
theorem heads_cons {E1 : List (Nat × Value)} {o : Oper} {os : List Oper} {v : Value} {vs : List Value} (h : HQ P w0 n D l0 E1 L o v) (t : Heads P w0 n D l0 E1 L os vs) : Heads P w0 n D l0 E1 L (o :: os) (v :: vs) := ⟨h, t⟩

/-! ### the head's operations -/
theorem hq_val {o : Oper} {v : Value} (hp : PV P w0 n D E1 L o.op o.type v) (hw : wantE l0 E1 o.guard = some true := by rfl) : HQ P w0 n D l0 E1 L o v :=
  .inl ⟨hw, fun a w he hs => by
    have := hp a w he hs o.dst o.pos o.after o.guard
    rw [show (⟨o.dst, o.op, o.type, o.pos, o.after, o.guard⟩ : Oper) = o from rfl] at this
    rw [this]; exact ⟨rfl, hs⟩⟩
theorem hq_skip {o : Oper} (hw : wantE l0 E1 o.guard = some false := by rfl) : HQ P w0 n D l0 E1 L o undef := .inr ⟨hw, rfl⟩
theorem hq_callD {x : Operand} {args : List Operand} {tys : Array TypeId} {T : TypeId} {f : FuncId} {fs vs cs as : List Value} {d : Option Nat} {pos : String} {af : Array Edge} {g : Option (Nat × Bool)} {Pre Qs : List SP} {v : Value}
    (hx : ev E1 x = some (.func (.func f) fs.toArray cs.toArray)) (hv : evs E1 args = some vs) (ha : fs ++ vs ++ cs = as) (hf : IsFn P f) (t : Takes L Pre R) (t' : Takes L Qs R) (hc : FnD P w0 f as Pre v Qs)
    (hw : wantE l0 E1 g = some true := by rfl) : HQ P w0 n D l0 E1 L ⟨d, .call ⟨.value x, args.toArray, tys⟩, T, pos, af, g⟩ v :=
  .inl ⟨hw, fun a w he hs => by
    rw [run_call he hx hv ha hf]
    refine (hc R w (hs.takes t)).mono ?_
    rintro e w' ⟨rfl, hs'⟩
    exact ⟨rfl, hs'.imp fun _ H => t'.unsep H⟩⟩
end
end Go.Z
