/- A statement whose order is open, told by tokens: each operation takes its own pieces and leaves its own; whatever order is drawn. -/
import Derived.Test.YtleofndjeekalaaZc
set_option linter.unusedSectionVars false
set_option linter.unusedSimpArgs false
set_option linter.unusedVariables false
namespace Go.Z
open Go Go.RowKit

/-- A piece of a statement: laid by operation 'src' (none: it was there), taken by 'dst' (none: it stays), read by the quiet operations 'rd'. -/
structure Tok where
  src : Option Nat
  dst : Option Nat
  rd : List Nat
  pc : (Nat → Value) → SP
def upd (ρ : Nat → Value) (i : Nat) (v : Value) : Nat → Value := fun j => match Nat.beq j i with
  | true => v
  | false => ρ j
def alive (listed : Array Bool) (t : Tok) : Bool := (match t.src with | none => true | some i => listed.getD i false) && (match t.dst with | none => true | some i => !listed.getD i false)
def pcs : List Tok → (Nat → Value) → List SP
  | [], _ => []
  | t :: ts, ρ => t.pc ρ :: pcs ts ρ
def isO : Option Nat → Nat → Bool
  | none, _ => false
  | some j, i => Nat.beq j i
def memB : List Nat → Nat → Bool
  | [], _ => false
  | j :: js, i => Nat.beq j i || memB js i
def filt (p : Tok → Bool) : List Tok → List Tok
  | [] => []
  | t :: ts => match p t with
    | true => t :: filt p ts
    | false => filt p ts
theorem filt_eq (p : Tok → Bool) (ts : List Tok) : filt p ts = ts.filter p := by
  induction ts with
  | nil => rfl
  | cons t ts ih => simp only [filt, List.filter_cons]; cases p t <;> simp [ih]
theorem pcs_eq (ts : List Tok) (ρ : Nat → Value) : pcs ts ρ = ts.map (fun t => t.pc ρ) := by
  induction ts with
  | nil => rfl
  | cons t ts ih => simp [pcs, ih]
def chgR (ro : Option Nat) (P : Program) (F : Value → World → Prop) : Result Next → Prop
  | .ok (.value u) w' => F u w'
  | .ok .skip w' => F undef w'
  | .ok (.enter f args) w' => Calls P f args w' fun e w'' => ∃ u, e = .returned u ∧ F u w''
  | .ok (.row row args) w' => RowsIn (FW ro) 0 P row args w' fun v w'' => F v w''
  | .ok (.round l f tmps as body) w' => RoundIn (FW ro) 0 P l f tmps as body w' fun e w'' => ∃ u, e = .returned u ∧ F u w''
  | _ => False
def HN (ro : Option Nat) (P : Program) (w0 : World) (n : Nat) (D : List Deferred) (l0 : List Oper) (E1 : List (Nat × Value)) (L : List SP) (F : Value → World → Prop) (o : Oper) : Prop :=
  wantE l0 E1 o.guard = some true ∧ ∀ a w, EnvOK a n D E1 → St w0 L w → chgR ro P F ((execOp a.eval o).run P w)
def TOp (ro : Option Nat) (P : Program) (w0 : World) (n : Nat) (D : List Deferred) (l0 : List Oper) (E : List (Nat × Value)) (vals : (Nat → Value) → List Value) (toks : List Tok) (chs : List Nat) (i : Nat) (o : Oper) : Prop :=
  match memB chs i with
  | true => ∀ ρ R, HN ro P w0 n D l0 (heads l0 (vals ρ) E) (pcs (filt (fun t => isO t.dst i) toks) ρ ++ R) (fun v w => (vals (upd ρ i v))[i]? = some v ∧ St w0 (pcs (filt (fun t => isO t.src i) toks) (upd ρ i v) ++ R) w) o
  | false => ∀ ρ R, match (vals ρ)[i]? with
    | some v => HQ P w0 n D l0 (heads l0 (vals ρ) E) (pcs (filt (fun t => memB t.rd i) toks) ρ ++ R) o v
    | none => False
def TOps (ro : Option Nat) (P : Program) (w0 : World) (n : Nat) (D : List Deferred) (l0 : List Oper) (E : List (Nat × Value)) (vals : (Nat → Value) → List Value) (toks : List Tok) (chs : List Nat) : Nat → List Oper → Prop
  | _, [] => True
  | i, o :: os => TOp ro P w0 n D l0 E vals toks chs i o ∧ TOps ro P w0 n D l0 E vals toks chs (i + 1) os
def vmask (l : List Oper) (i : Nat) : Nat → List Value → List Value
  | _, [] => []
  | j, v :: vs => (match Nat.beq j i || waitsB l l.length j i with | true => undef | false => v) :: vmask l i (j + 1) vs
def tmask (l : List Oper) (i : Nat) (ρ : Nat → Value) : List Tok → List (Option SP)
  | [] => []
  | t :: ts => (match t.src with | none => some (t.pc ρ) | some s => match Nat.beq s i || waitsB l l.length s i with | true => none | false => some (t.pc ρ)) :: tmask l i ρ ts
def UpOK (l : List Oper) (vals : (Nat → Value) → List Value) (toks : List Tok) : List Nat → Prop
  | [] => True
  | i :: is => (∀ ρ v, vmask l i 0 (vals (upd ρ i v)) = vmask l i 0 (vals ρ)) ∧ (∀ ρ v, tmask l i (upd ρ i v) toks = tmask l i ρ toks) ∧ UpOK l vals toks is
def ltO : Option Nat → Nat → Bool
  | none, _ => true
  | some i, m => Nat.blt i m
def tokOK (l : List Oper) (toks : List Tok) (chs : List Nat) : Bool :=
  nodupB (dstsOf l) && l.all (headOK l l.length) &&
  ((List.range l.length).all fun j => match l[j]? with | some o => o.after.toList.all (fun e => !binds' e || Nat.blt e.on j) | none => true) &&
  (toks.all fun t => ltO t.src l.length && ltO t.dst l.length && (match t.src with | some i => memB chs i | none => true) && (match t.dst with | some i => memB chs i | none => true) &&
    (match t.src, t.dst with | some i, some j => !Nat.beq i j && waitsB l l.length j i | _, _ => true) &&
    t.rd.all fun i => (match t.src with | none => true | some s => waitsB l l.length i s) && (match t.dst with | none => true | some s => waitsB l l.length s i))

section
variable {w0 : World} {n : Nat} {D : List Deferred} {E E' E1 : List (Nat × Value)} {L L' R As Fr : List SP} {P : Program} {ro : Option Nat} {Q : Exit → Act → World → Prop} {l0 l : List Oper} {vals : (Nat → Value) → List Value} {toks : List Tok} {chs : List Nat}

theorem memB_iff {js : List Nat} {i : Nat} : memB js i = true ↔ i ∈ js := by
  induction js with
  | nil => simp [memB]
  | cons j js ih => simp only [memB, Bool.or_eq_true, ih, List.mem_cons]; constructor
                    · rintro (h | h)
                      · exact .inl (Nat.eq_of_beq_eq_true h).symm
                      · exact .inr h
                    · rintro (h | h)
                      · subst h; exact .inl (Nat.beq_refl _)
                      · exact .inr h
theorem isO_iff {o : Option Nat} {i : Nat} : isO o i = true ↔ o = some i := by
  cases o with
  | none => simp [isO]
  | some j => simp only [isO, Option.some.injEq]; exact ⟨Nat.eq_of_beq_eq_true, fun h => by subst h; exact Nat.beq_refl _⟩
theorem tops_at : ∀ {os : List Oper} {k j : Nat} {o : Oper}, TOps ro P w0 n D l0 E vals toks chs k os → os[j]? = some o → TOp ro P w0 n D l0 E vals toks chs (k + j) o := by
  intro os
  induction os with
  | nil => intro k j o _ h; simp at h
  | cons o' os ih =>
    intro k j o h h1
    obtain ⟨ha, hb⟩ := h
    cases j with
    | zero => simp at h1; subst h1; exact ha
    | succ j => rw [show k + (j + 1) = (k + 1) + j by omega]; exact ih hb (by simpa using h1)
theorem vmask_get {l : List Oper} {i : Nat} : ∀ {vs us : List Value} {k j : Nat}, vmask l i k vs = vmask l i k us → k + j ≠ i → waitsB l l.length (k + j) i = false → vs[j]? = us[j]? := by
  intro vs
  induction vs with
  | nil => intro us k j h _ _; cases us with
    | nil => rfl
    | cons => simp [vmask] at h
  | cons v vs ih =>
    intro us k j h h1 h2
    cases us with
    | nil => simp [vmask] at h
    | cons u us =>
      simp only [vmask, List.cons.injEq] at h
      cases j with
      | zero =>
        have e : (Nat.beq k i || waitsB l l.length k i) = false := by
          rw [Nat.add_zero] at h1 h2
          rw [h2, Bool.or_false]
          cases hb : Nat.beq k i with
          | false => rfl
          | true => exact absurd (Nat.eq_of_beq_eq_true hb) h1
        rw [e] at h
        simp [h.1]
      | succ j => simp only [List.getElem?_cons_succ]; exact ih (k := k + 1) h.2 (by omega) (by rw [show k + 1 + j = k + (j + 1) by omega]; exact h2)
theorem tmask_get {l : List Oper} {i : Nat} {ρ ρ' : Nat → Value} : ∀ {ts : List Tok}, tmask l i ρ' ts = tmask l i ρ ts → ∀ t ∈ ts, (∀ s, t.src = some s → s ≠ i ∧ waitsB l l.length s i = false) → t.pc ρ' = t.pc ρ := by
  intro ts
  induction ts with
  | nil => intro _ t ht; cases ht
  | cons t ts ih =>
    intro h u hu hs
    simp only [tmask, List.cons.injEq] at h
    rcases List.mem_cons.1 hu with e | e
    · subst e
      cases hsrc : u.src with
      | none => rw [hsrc] at h; exact Option.some.inj h.1
      | some s =>
        obtain ⟨h1, h2⟩ := hs s hsrc
        have e : (Nat.beq s i || waitsB l l.length s i) = false := by
          rw [h2, Bool.or_false]
          cases hb : Nat.beq s i with
          | false => rfl
          | true => exact absurd (Nat.eq_of_beq_eq_true hb) h1
        rw [hsrc] at h
        simp only [e] at h
        exact Option.some.inj h.1
    · exact ih h.2 u e hs
theorem upOK_at {is : List Nat} {i : Nat} (h : UpOK l vals toks is) (hi : i ∈ is) : (∀ ρ v, vmask l i 0 (vals (upd ρ i v)) = vmask l i 0 (vals ρ)) ∧ (∀ ρ v, tmask l i (upd ρ i v) toks = tmask l i ρ toks) := by
  induction is with
  | nil => cases hi
  | cons j is ih =>
    obtain ⟨b, c, d⟩ := h
    rcases List.mem_cons.1 hi with e | e
    · subst e; exact ⟨b, c⟩
    · exact ih d e

structure TInv (l : List Oper) (n : Nat) (D : List Deferred) (E : List (Nat × Value)) (vs : List Value) (listed : Array Bool) (a : Act) : Prop where
  size : listed.size = l.length
  closed : ∀ j o, l[j]? = some o → listed.getD j false = true → ∀ e ∈ o.after, Region.binds .any e = true → listed.getD e.on false = true
  an : a.tmps.size = n
  ad : a.defers = D
  base : ∀ k v, look E k = some v → k ∉ dstsOf l → a.tmps[k]? = some v
  done : ∀ j o d v, l[j]? = some o → o.dst = some d → vs[j]? = some v → listed.getD j false = true → a.tmps[d]? = some v

theorem TInv.env {vs : List Value} {listed : Array Bool} {a : Act} (inv : TInv l n D E vs listed a) (hnd : nodupB (dstsOf l) = true) (hvl : vs.length = l.length) (hd : ∀ d ∈ dstsOf l, d < n) (hall : ∀ i, i < l.length → listed.getD i false = true) : EnvOK a n D (heads l vs E) := by
  have h1 := fill_env (n := n) (D := D) (E := E) (os := l) (vs := vs) (a := a) hvl.symm inv.an inv.ad hd inv.base
  refine ⟨inv.an, inv.ad, fun k v hk => ?_⟩
  by_cases hkd : k ∈ dstsOf l
  · obtain ⟨j, o, hj, hod⟩ := mem_dstsOf.1 hkd
    have hjl : j < l.length := (List.getElem?_eq_some_iff.1 hj).1
    obtain ⟨u, hu⟩ : ∃ u, vs[j]? = some u := ⟨vs[j]'(by omega), by simp [hvl, hjl]⟩
    have := look_heads (E := E) hnd hj hod hu
    rw [this] at hk; cases hk
    exact inv.done j o k _ hj hod hu (hall j hjl)
  · have := h1.get k v hk; rwa [fill_other hkd] at this

theorem any_tok (hnd : nodupB (dstsOf l) = true) (hok : ∀ (j : Nat) (o : Oper), l[j]? = some o → headOK l l.length o = true)
    (hord : ∀ (j : Nat) (o : Oper), l[j]? = some o → ∀ e ∈ o.after, Region.binds .any e = true → e.on < j)
    (ht1 : ∀ t ∈ toks, (∀ i, t.src = some i → i < l.length ∧ i ∈ chs) ∧ (∀ i, t.dst = some i → i < l.length ∧ i ∈ chs) ∧ (∀ i j, t.src = some i → t.dst = some j → i ≠ j ∧ waitsB l l.length j i = true) ∧
      ∀ i ∈ t.rd, (∀ s, t.src = some s → waitsB l l.length i s = true) ∧ (∀ s, t.dst = some s → waitsB l l.length s i = true))
    (hd : ∀ d ∈ dstsOf l, d < n) (hvl : ∀ ρ, (vals ρ).length = l.length) (hup : UpOK l vals toks chs)
    (hH : ∀ (j : Nat) (o : Oper), l[j]? = some o → TOp ro P w0 n D l E vals toks chs j o)
    (hfin : ∀ ρ, J w0 n D (heads l (vals ρ) E) (pcs (filt (fun t => t.dst.isNone) toks) ρ ++ Fr) (Q .normal)) :
    ∀ (fuel : Nat) (listed : Array Bool) (a : Act) (w : World) (ρ : Nat → Value), listed.toList.count false ≤ fuel → TInv l n D E (vals ρ) listed a → St w0 (pcs (toks.filter (alive listed)) ρ ++ Fr) w →
      wpAnyIn (FW ro) 0 P .any l.toArray Q fuel listed a w := by
  have hcntlen : ∀ listed : Array Bool, ∀ i, listed.getD i true = false → 0 < listed.toList.count false := by
    intro listed i hi
    rcases Nat.lt_or_ge i listed.size with h | h
    · simp [h] at hi
      exact List.count_pos_iff.2 (by rw [← hi]; simp)
    · simp [Array.getElem?_eq_none h] at hi
  have hend : ∀ (listed : Array Bool) (a : Act) (w : World) (ρ : Nat → Value), TInv l n D E (vals ρ) listed a → St w0 (pcs (toks.filter (alive listed)) ρ ++ Fr) w → (∀ i, i < l.length → listed.getD i false = true) → Q .normal a w := by
    intro listed a w ρ inv hs hall
    refine hfin ρ a w (inv.env hnd (hvl ρ) hd hall) ?_
    have : toks.filter (alive listed) = filt (fun t => t.dst.isNone) toks := by
      rw [filt_eq]
      refine List.filter_congr fun t ht => ?_
      obtain ⟨g1, g2, _⟩ := ht1 t ht
      unfold alive
      cases hsr : t.src with
      | none => cases hds : t.dst with
        | none => rfl
        | some j => simp only [hall j (g2 j hds).1]; rfl
      | some i => cases hds : t.dst with
        | none => simp only [hall i (g1 i hsr).1]; rfl
        | some j => simp only [hall j (g2 j hds).1, hall i (g1 i hsr).1]; rfl
    rw [← this]; exact hs
  have hnoready : ∀ listed : Array Bool, listed.size = l.length → (∀ i, i < l.length → listed.getD i false = true) → Region.ready .any l.toArray listed = [] := by
    intro listed hsz hall
    apply List.eq_nil_iff_forall_not_mem.2
    intro i hi
    obtain ⟨hun, o, ho, _⟩ := mem_ready.1 hi
    have hlt : i < l.length := by have := (Array.getElem?_eq_some_iff.1 ho).1; simpa using this
    have := hall i hlt
    simp [hsz, hlt] at hun this
    rw [hun] at this; cases this
  intro fuel
  induction fuel with
  | zero =>
    intro listed a w ρ hc inv hs
    have hall : ∀ i, i < l.length → listed.getD i false = true := by
      intro i hi
      have hi' : i < listed.size := by rw [inv.size]; exact hi
      cases h : listed.getD i false with
      | true => rfl
      | false => have := hcntlen listed i (by simp [hi'] at h ⊢; exact h); omega
    exact ⟨hnoready listed inv.size hall, hend listed a w ρ inv hs hall⟩
  | succ fuel ih =>
    intro listed a w ρ hc inv hs
    have hfillE : EnvOK (fill a l (vals ρ)) n D (heads l (vals ρ) E) := fill_env (hvl ρ).symm inv.an inv.ad hd inv.base
    by_cases hall : ∀ j, j < l.length → listed.getD j false = true
    · have h0 := hnoready listed inv.size hall
      exact ⟨fun _ => hend listed a w ρ inv hs hall, fun i hi => by rw [h0] at hi; cases hi⟩
    · have hex : ∃ j, j < l.length ∧ listed.getD j false = false ∧ ∀ i, i < j → listed.getD i false = true := by
        have : ∀ k, (∀ j, j < k → j < l.length → listed.getD j false = true) ∨ ∃ j, j < l.length ∧ listed.getD j false = false ∧ ∀ i, i < j → listed.getD i false = true := by
          intro k
          induction k with
          | zero => left; intro j hj; omega
          | succ k ihk =>
            rcases ihk with h | h
            · by_cases hkm : k < l.length
              · cases hk : listed.getD k false with
                | true => left; intro j hj hjm; rcases Nat.lt_or_ge j k with h' | h'
                          · exact h j h' hjm
                          · have : j = k := by omega
                            subst this; exact hk
                | false => right; exact ⟨k, hkm, hk, fun i hi => h i hi (by omega)⟩
              · left; intro j hj hjm; exact h j (by omega) hjm
            · exact .inr h
        rcases this l.length with h | h
        · exact absurd (fun j hj => h j hj hj) hall
        · exact h
      obtain ⟨j0, hj0, hj0f, hj0l⟩ := hex
      have hun : ∀ i, i < l.length → listed.getD i false = false → listed.getD i true = false := fun i hi h => by
        have : i < listed.size := by rw [inv.size]; exact hi
        simp [this] at h ⊢; exact h
      have hr0 : j0 ∈ Region.ready .any l.toArray listed := by
        refine mem_ready.2 ⟨hun j0 hj0 hj0f, l[j0], by simp [hj0], fun e he hb => ?_⟩
        exact hj0l _ (hord j0 l[j0] (by simp [hj0]) e he hb)
      refine ⟨fun h0 => (by rw [h0] at hr0; cases hr0), fun i hi => ?_⟩
      obtain ⟨hiun, o, ho, hiall⟩ := mem_ready.1 hi
      have ho' : l[i]? = some o := by simpa using ho
      have hilt : i < l.length := (List.getElem?_eq_some_iff.1 ho').1
      have hiun' : listed.getD i false = false := by
        have : i < listed.size := by rw [inv.size]; exact hilt
        simp [this] at hiun ⊢; exact hiun
      have hpred : ∀ s, waitsB l l.length i s = true → listed.getD s false = true := fun s h => waitsB_listed inv.closed _ i s h ⟨o, ho', hiall⟩
      have hsucc : ∀ s, s < l.length → waitsB l l.length s i = true → listed.getD s false = false := fun s hsl h => by
        cases hls : listed.getD s false with
        | false => rfl
        | true =>
          have := waitsB_listed inv.closed _ s i h ⟨l[s], by simp [hsl], fun e he hb => inv.closed s l[s] (by simp [hsl]) hls e he hb⟩
          rw [hiun'] at this; cases this
      have hok' := hok i o ho'
      simp only [headOK, Bool.and_eq_true] at hok'
      obtain ⟨⟨⟨hopr, hg⟩, hndf⟩, hnsel⟩ := hok'
      have hedge : ∀ j, hasEdge o j = true → listed.getD j false = true := fun j hj => by
        simp only [hasEdge, List.any_eq_true, Bool.and_eq_true] at hj
        obtain ⟨e, he, hb, hej⟩ := hj
        rw [← Nat.eq_of_beq_eq_true hej]; exact hiall e (by simpa using he) hb
      have hslot : ∀ j oj d, l[j]? = some oj → oj.dst = some d → hasEdge o j = true → a.tmps[d]? = (fill a l (vals ρ)).tmps[d]? := by
        intro j oj d hj hod he
        have hjl : j < l.length := (List.getElem?_eq_some_iff.1 hj).1
        obtain ⟨u, hu⟩ : ∃ u, (vals ρ)[j]? = some u := ⟨(vals ρ)[j]'(by rw [hvl]; exact hjl), by simp [hvl, hjl]⟩
        rw [inv.done j oj d u hj hod hu (hedge j he)]
        exact (hfillE.get d u (look_heads hnd hj hod hu)).symm
      have hsame : ∀ x ∈ o.op.operands, a.eval x = (fill a l (vals ρ)).eval x := by
        intro x hx
        cases x with
        | tmp t =>
          have h1 := List.all_eq_true.1 hopr (.tmp t) (by simpa using hx)
          simp only [Act.eval, Array.getD_eq_getD_getElem?]
          by_cases htd : t ∈ dstsOf l
          · obtain ⟨j, oj, hj, hod⟩ := mem_dstsOf.1 htd
            have hjl : j < l.length := (List.getElem?_eq_some_iff.1 hj).1
            have h2 := List.all_eq_true.1 h1 j (by simpa using hjl)
            simp only [hj, hod, Nat.beq_refl, Bool.not_true, Bool.false_or] at h2
            rw [hslot j oj t hj hod h2]
          · rw [fill_other htd]
        | const v => rfl
        | global g => rfl
        | func f => rfl
      have hyield : Region.wanted o (yielded l.toArray a.tmps) = Region.wanted o (yielded l.toArray (fill a l (vals ρ)).tmps) := by
        unfold Region.wanted
        cases hgd : o.guard with
        | none => rfl
        | some p =>
          obtain ⟨j, want⟩ := p
          simp only [hgd, Bool.and_eq_true] at hg
          have hjl : j < l.length := by have := hg.1; simpa [Nat.blt_eq] using this
          simp only [yielded, List.getElem?_toArray]
          cases hod : (l[j]'hjl).dst with
          | none => simp [hjl, hod]
          | some d =>
            have := hslot j l[j] d (by simp [hjl]) hod hg.2
            simp [hjl, hod, this]
      have hcnt : (listed.setIfInBounds i true).toList.count false ≤ fuel := by
        have h1 : listed.toList[i]? = some false := by
          have : i < listed.size := by rw [inv.size]; exact hilt
          simp [this] at hiun ⊢; exact hiun
        have := count_set h1
        simp only [Array.toList_setIfInBounds]
        omega
      have hset : ∀ s, (listed.setIfInBounds i true).getD s false = (listed.getD s false || Nat.beq s i) := by
        intro s
        by_cases h : i = s
        · subst h
          have : i < listed.size := by rw [inv.size]; exact hilt
          simp [this]
        · rw [getD_set_ne false h]
          cases hb : Nat.beq s i with
          | false => simp
          | true => exact absurd (Nat.eq_of_beq_eq_true hb).symm h
      have hinv : ∀ (ρ' : Nat → Value) (v : Value), (vals ρ')[i]? = some v → (∀ j, j < l.length → j ≠ i → listed.getD j false = true → (vals ρ')[j]? = (vals ρ)[j]?) → TInv l n D E (vals ρ') (listed.setIfInBounds i true) (a.put o.dst v) := by
        intro ρ' v hv hsm
        refine ⟨by simpa using inv.size, ?_, ?_, ?_, ?_, ?_⟩
        · intro j oj hj hjl e he hb
          by_cases hij : i = j
          · subst hij
            rw [ho'] at hj; cases hj
            exact getD_set_true (hiall e he hb)
          · rw [getD_set_ne false hij] at hjl
            exact getD_set_true (inv.closed j oj hj hjl e he hb)
        · simp only [Act.put]; cases o.dst <;> simp [inv.an]
        · simp only [Act.put]; cases o.dst <;> exact inv.ad
        · intro k u hk hkd
          have hne : ∀ d, o.dst = some d → d ≠ k := fun d hod h => hkd (mem_dstsOf.2 ⟨i, o, ho', by rw [hod, h]⟩)
          simp only [Act.put]
          cases hod : o.dst with
          | none => exact inv.base k u hk hkd
          | some d => simp only [Array.getElem?_setIfInBounds]; rw [if_neg (hne d hod)]; exact inv.base k u hk hkd
        · intro j oj d u hj hod hu hjl
          have hdlt : d < n := hd d (mem_dstsOf.2 ⟨j, oj, hj, hod⟩)
          by_cases hij : i = j
          · subst hij
            rw [ho'] at hj; cases hj
            rw [hv] at hu; cases hu
            simp only [Act.put, hod, Array.getElem?_setIfInBounds, if_true, inv.an, hdlt]
          · rw [getD_set_ne false hij] at hjl
            have hjlt : j < l.length := (List.getElem?_eq_some_iff.1 hj).1
            rw [hsm j hjlt (fun h => hij h.symm) hjl] at hu
            have h1 := inv.done j oj d u hj hod hu hjl
            simp only [Act.put]
            cases hod' : o.dst with
            | none => exact h1
            | some d' =>
              have hne : d' ≠ d := fun h => by
                subst h
                have e1 := look_heads (E := ([] : List (Nat × Value))) (vs := (List.range l.length).map fun q : Nat => Value.int .i64 (q : Int)) hnd ho' hod' (v := Value.int .i64 i) (by simp [hilt])
                have e2 := look_heads (E := ([] : List (Nat × Value))) (vs := (List.range l.length).map fun q : Nat => Value.int .i64 (q : Int)) hnd hj hod (v := Value.int .i64 j) (by simp [hjlt])
                rw [e1] at e2
                simp at e2
                omega
              simp only [Array.getElem?_setIfInBounds]; rw [if_neg hne]; exact h1
      have hT := hH i o ho'
      unfold TOp at hT
      unfold wpOpIn
      simp only [ho]
      have hnd' : ∀ c, o.op ≠ .defer c := not_defer (by simpa using hndf)
      -- the pieces parted
      have hpart : ∀ (p : Tok → Bool), (∀ t ∈ toks, p t = true → alive listed t = true) → St w0 (pcs (filt p toks) ρ ++ (pcs ((toks.filter (alive listed)).filter (fun t => !p t)) ρ ++ Fr)) w := by
        intro p hp
        refine hs.imp fun _ H => ?_
        have e1 : filt p toks = (toks.filter (alive listed)).filter p := by
          rw [filt_eq, List.filter_filter]
          refine List.filter_congr fun t ht => ?_
          cases hpt : p t with
          | false => simp
          | true => simp [hp t ht hpt]
        rw [e1, ← List.append_assoc, pcs_eq, pcs_eq, ← List.map_append]
        refine sep_perm (List.Perm.append_right _ ?_) H
        rw [pcs_eq]
        exact (List.filter_append_perm p _).symm.map _
      cases hch : memB chs i with
      | false =>
        rw [hch] at hT
        have hT := hT ρ (pcs ((toks.filter (alive listed)).filter (fun t => !memB t.rd i)) ρ ++ Fr)
        have hsp := hpart (fun t => memB t.rd i) (fun t ht hr => by
          obtain ⟨g1, g2, _, g3⟩ := ht1 t ht
          obtain ⟨g4, g5⟩ := g3 i (memB_iff.1 hr)
          unfold alive
          cases hsr : t.src with
          | none => cases hds : t.dst with
            | none => rfl
            | some j => simp only [hsucc j (g2 j hds).1 (g5 j hds)]; rfl
          | some s => cases hds : t.dst with
            | none => simp only [hpred s (g4 s hsr)]; rfl
            | some j => simp only [hsucc j (g2 j hds).1 (g5 j hds), hpred s (g4 s hsr)]; rfl)
        have hci : i ∉ chs := fun h => by rw [memB_iff.2 h] at hch; cases hch
        have halive : toks.filter (alive (listed.setIfInBounds i true)) = toks.filter (alive listed) := by
          refine List.filter_congr fun t ht => ?_
          obtain ⟨g1, g2, _, _⟩ := ht1 t ht
          have hne : ∀ s, s ∈ chs → (listed.setIfInBounds i true).getD s false = listed.getD s false := fun s hsc => by
            rw [hset]
            cases hb : Nat.beq s i with
            | false => simp
            | true => rw [Nat.eq_of_beq_eq_true hb] at hsc; exact absurd hsc hci
          unfold alive
          cases hsr : t.src with
          | none => cases hds : t.dst with
            | none => rfl
            | some j => simp only [hne j (g2 j hds).2]
          | some s => cases hds : t.dst with
            | none => simp only [hne s (g1 s hsr).2]
            | some j => simp only [hne j (g2 j hds).2, hne s (g1 s hsr).2]
        cases hvi : (vals ρ)[i]? with
        | none => rw [hvi] at hT; exact hT.elim
        | some v =>
          rw [hvi] at hT
          have hback : ∀ w', St w0 (pcs (filt (fun t => memB t.rd i) toks) ρ ++ (pcs ((toks.filter (alive listed)).filter (fun t => !memB t.rd i)) ρ ++ Fr)) w' → St w0 (pcs (toks.filter (alive (listed.setIfInBounds i true))) ρ ++ Fr) w' := by
            intro w' hs'
            rw [halive]
            refine hs'.imp fun _ H => ?_
            have e1 : filt (fun t => memB t.rd i) toks = (toks.filter (alive listed)).filter (fun t => memB t.rd i) := by
              rw [filt_eq, List.filter_filter]
              refine List.filter_congr fun t ht => ?_
              cases hpt : memB t.rd i with
              | false => simp
              | true =>
                obtain ⟨g1, g2, _, g3⟩ := ht1 t ht
                obtain ⟨g4, g5⟩ := g3 i (memB_iff.1 hpt)
                have : alive listed t = true := by
                  unfold alive
                  cases hsr : t.src with
                  | none => cases hds : t.dst with
                    | none => rfl
                    | some j => simp only [hsucc j (g2 j hds).1 (g5 j hds)]; rfl
                  | some s => cases hds : t.dst with
                    | none => simp only [hpred s (g4 s hsr)]; rfl
                    | some j => simp only [hsucc j (g2 j hds).1 (g5 j hds), hpred s (g4 s hsr)]; rfl
                simp [this]
            rw [e1, ← List.append_assoc, pcs_eq, pcs_eq, ← List.map_append] at H
            refine sep_perm (List.Perm.append_right _ ?_) H
            rw [pcs_eq]
            exact (List.filter_append_perm _ _).map _
          have hnext : ∀ w', St w0 (pcs (filt (fun t => memB t.rd i) toks) ρ ++ (pcs ((toks.filter (alive listed)).filter (fun t => !memB t.rd i)) ρ ++ Fr)) w' → wpAnyIn (FW ro) 0 P .any l.toArray Q fuel (listed.setIfInBounds i true) (a.put o.dst v) w' := fun w' hs' =>
            ih _ _ w' ρ hcnt (hinv ρ v hvi (fun _ _ _ _ => rfl)) (hback w' hs')
          rcases hT with ⟨hwt, hq⟩ | ⟨hwf, hq⟩
          · rw [hyield, wantE_spec hfillE hwt, if_pos rfl]
            refine ⟨fun _ _ => trivial, ?_⟩
            rw [Oper.semAt_eq _ _ _ hnd', execOp_congr o (fun cs b e => by rw [e] at hnsel; simp [isSelect] at hnsel) hsame]
            have hq' := hq _ w hfillE hsp
            revert hq'
            generalize (execOp (fill a l (vals ρ)).eval o).run P w = r
            intro hq'
            cases r with
            | ok x w' =>
              cases x with
              | value u => obtain ⟨h1, h2⟩ := hq'; subst h1; exact hnext w' h2
              | skip => obtain ⟨h1, h2⟩ := hq'; subst h1; exact hnext w' h2
              | enter f args =>
                refine ⟨fun h => (by cases h), callsFW.2 (hq'.mono ?_)⟩
                rintro e w'' ⟨rfl, h2⟩
                exact hnext w'' h2
              | _ => exact hq'.elim
            | halt x w' => exact hq'.elim
          · subst hq
            rw [hyield, wantE_spec hfillE hwf, if_neg (by simp)]
            exact ⟨fun _ _ => trivial, hnext w hsp⟩
      | true =>
        rw [hch] at hT
        have hci : i ∈ chs := memB_iff.1 hch
        obtain ⟨u2, u3⟩ := upOK_at hup hci
        have hT := hT ρ (pcs ((toks.filter (alive listed)).filter (fun t => !isO t.dst i)) ρ ++ Fr)
        have hsp := hpart (fun t => isO t.dst i) (fun t ht hr => by
          obtain ⟨g1, g2, g3, _⟩ := ht1 t ht
          have hds := isO_iff.1 hr
          unfold alive
          cases hsr : t.src with
          | none => simp only [hds, hiun']; rfl
          | some s => simp only [hds, hiun', hpred s (g3 s i hsr hds).2]; rfl)
        obtain ⟨hwt, hq⟩ := hT
        have hnext : ∀ v w', ((vals (upd ρ i v))[i]? = some v ∧ St w0 (pcs (filt (fun t => isO t.src i) toks) (upd ρ i v) ++ (pcs ((toks.filter (alive listed)).filter (fun t => !isO t.dst i)) ρ ++ Fr)) w') → wpAnyIn (FW ro) 0 P .any l.toArray Q fuel (listed.setIfInBounds i true) (a.put o.dst v) w' := by
          intro v w' ⟨hvv, hs'⟩
          refine ih _ _ w' (upd ρ i v) hcnt (hinv (upd ρ i v) v hvv (fun j hj hji hjl => ?_)) ?_
          · refine vmask_get (k := 0) (u2 ρ v) (by omega) ?_
            rw [Nat.zero_add]
            cases hb : waitsB l l.length j i with
            | false => rfl
            | true => have := hsucc j hj hb; rw [this] at hjl; cases hjl
          · refine hs'.imp fun _ H => ?_
            have e0 : pcs ((toks.filter (alive listed)).filter (fun t => !isO t.dst i)) ρ = pcs ((toks.filter (alive listed)).filter (fun t => !isO t.dst i)) (upd ρ i v) := by
              rw [pcs_eq, pcs_eq]
              refine List.map_congr_left fun t ht => ?_
              have ht' := List.mem_filter.1 (List.mem_filter.1 ht).1
              refine (tmask_get (u3 ρ v) t ht'.1 (fun s hsr => ?_)).symm
              have hal := ht'.2
              unfold alive at hal
              rw [hsr] at hal
              simp only [Bool.and_eq_true] at hal
              refine ⟨fun e => (by rw [e, hiun'] at hal; cases hal.1), ?_⟩
              cases hb : waitsB l l.length s i with
              | false => rfl
              | true => have := hsucc s ((ht1 t ht'.1).1 s hsr).1 hb; rw [this] at hal; cases hal.1
            rw [e0, ← List.append_assoc, pcs_eq, pcs_eq, ← List.map_append] at H
            refine sep_perm (List.Perm.append_right _ ?_) H
            rw [pcs_eq]
            refine List.Perm.map _ ?_
            have e1 : filt (fun t => isO t.src i) toks = (toks.filter (alive (listed.setIfInBounds i true))).filter (fun t => isO t.src i) := by
              rw [filt_eq, List.filter_filter]
              refine List.filter_congr fun t ht => ?_
              cases hpt : isO t.src i with
              | false => simp
              | true =>
                obtain ⟨g1, g2, g3, _⟩ := ht1 t ht
                have hsr := isO_iff.1 hpt
                have : alive (listed.setIfInBounds i true) t = true := by
                  unfold alive
                  simp only [hsr, hset, Nat.beq_refl, Bool.or_true, Bool.true_and]
                  cases hds : t.dst with
                  | none => rfl
                  | some j =>
                    obtain ⟨g4, g5⟩ := g3 i j hsr hds
                    simp only [hset, hsucc j (g2 j hds).1 g5, Bool.false_or]
                    cases hb : Nat.beq j i with
                    | false => rfl
                    | true => exact absurd (Nat.eq_of_beq_eq_true hb).symm g4
                simp [this]
            have e2 : (toks.filter (alive listed)).filter (fun t => !isO t.dst i) = (toks.filter (alive (listed.setIfInBounds i true))).filter (fun t => !isO t.src i) := by
              rw [List.filter_filter, List.filter_filter]
              refine List.filter_congr fun t ht => ?_
              obtain ⟨g1, g2, g3, _⟩ := ht1 t ht
              unfold alive
              cases hsr : t.src with
              | none => cases hds : t.dst with
                | none => simp [isO]
                | some j => simp only [hset, isO]; cases Nat.beq j i <;> cases listed.getD j false <;> rfl
              | some s => cases hds : t.dst with
                | none =>
                  simp only [hset, isO]
                  cases hb : Nat.beq s i with
                  | false => simp
                  | true => rw [Nat.eq_of_beq_eq_true hb, hiun']; rfl
                | some j =>
                  simp only [hset, isO]
                  cases hb : Nat.beq s i with
                  | false => cases Nat.beq j i <;> cases listed.getD j false <;> cases listed.getD s false <;> rfl
                  | true => rw [Nat.eq_of_beq_eq_true hb, hiun']; cases Nat.beq j i <;> cases listed.getD j false <;> rfl
            rw [e1, e2]
            exact List.filter_append_perm _ _
        rw [hyield, wantE_spec hfillE hwt, if_pos rfl]
        refine ⟨fun _ _ => trivial, ?_⟩
        rw [Oper.semAt_eq _ _ _ hnd', execOp_congr o (fun cs b e => by rw [e] at hnsel; simp [isSelect] at hnsel) hsame]
        have hq' := hq _ w hfillE hsp
        revert hq'
        generalize (execOp (fill a l (vals ρ)).eval o).run P w = r
        intro hq'
        cases r with
        | ok x w' =>
          cases x with
          | value u => exact hnext u w' hq'
          | skip => exact hnext undef w' hq'
          | enter f args =>
            refine ⟨fun h => (by cases h), callsFW.2 (Calls.mono (show Calls P f args w' _ from hq') ?_)⟩
            rintro e w'' ⟨u, rfl, h2⟩
            exact hnext u w'' h2
          | row row args =>
            refine ⟨fun h => (by cases h), RowsIn.mono (show RowsIn (FW ro) 0 P row args w' _ from hq') ?_⟩
            intro u w'' h2
            exact hnext u w'' h2
          | round l f tmps as body =>
            refine ⟨fun h => (by cases h), RoundIn.mono (show RoundIn (FW ro) 0 P l f tmps as body w' _ from hq') ?_⟩
            rintro e w'' ⟨u, rfl, h2⟩
            exact hnext u w'' h2
          | _ => exact hq'.elim
        | halt x w' => exact hq'.elim

/-- **A statement whose order is open**, by tokens. -/
theorem j_drawT {id : Nat} (toks : List Tok) (chs : List Nat) (vals : (Nat → Value) → List Value) (hm : P.follows .mixedOrders = true) (hB : tokOK l toks chs = true) (hdn : (dstsOf l).all (Nat.blt · n) = true) (hvl : ∀ ρ, (vals ρ).length = l.length) (hup : UpOK l vals toks chs)
    (t : ∀ ρ, Takes L (pcs (filt (fun t => t.src.isNone) toks) ρ) R) (hH : TOps ro P w0 n D l E vals toks chs 0 l)
    (hfin : ∀ ρ, J w0 n D (heads l (vals ρ) E) (pcs (filt (fun t => t.dst.isNone) toks) ρ ++ R) (Q .normal)) : J w0 n D E L (W ro P (.region id l.toArray true) Q) := fun a w he hs => by
  simp only [tokOK, Bool.and_eq_true] at hB
  obtain ⟨⟨⟨hnd, hok⟩, hord⟩, htk⟩ := hB
  refine wpIn_region_any hm ?_
  have hsz : l.toArray.size = l.length := by simp
  rw [hsz]
  refine any_tok (vals := vals) (toks := toks) (chs := chs) (E := E) (Fr := R) hnd ?_ ?_ ?_ ?_ hvl hup ?_ hfin l.length _ a _ (fun _ => undef) (by simp) ?_ ?_
  · intro j o ho; exact List.all_eq_true.1 hok o (List.mem_of_getElem? ho)
  · intro j o ho e hem hb
    have hjl : j < l.length := (List.getElem?_eq_some_iff.1 ho).1
    have h1 := List.all_eq_true.1 hord j (by simpa using hjl)
    simp only [ho] at h1
    have h2 := List.all_eq_true.1 h1 e (by simpa using hem)
    simp only [binds', hb, Bool.not_true, Bool.false_or] at h2
    simpa [Nat.blt_eq] using h2
  · intro t ht
    have h1 := List.all_eq_true.1 htk t ht
    simp only [Bool.and_eq_true] at h1
    obtain ⟨⟨⟨⟨⟨g1, g2⟩, g3⟩, g4⟩, g5⟩, g6⟩ := h1
    refine ⟨fun i e => ?_, fun i e => ?_, fun i j e1 e2 => ?_, fun i hi => ?_⟩
    · rw [e] at g1 g3; exact ⟨by simpa [ltO, Nat.blt_eq] using g1, memB_iff.1 g3⟩
    · rw [e] at g2 g4; exact ⟨by simpa [ltO, Nat.blt_eq] using g2, memB_iff.1 g4⟩
    · rw [e1, e2] at g5
      simp only [Bool.and_eq_true, Bool.not_eq_true'] at g5
      exact ⟨fun h => (by rw [h, Nat.beq_refl] at g5; cases g5.1), g5.2⟩
    · have h2 := List.all_eq_true.1 g6 i hi
      simp only [Bool.and_eq_true] at h2
      exact ⟨fun s e => by rw [e] at h2; exact h2.1, fun s e => by rw [e] at h2; exact h2.2⟩
  · intro d hdm
    have := List.all_eq_true.1 hdn d hdm
    simpa [Nat.blt_eq] using this
  · intro j o ho
    have := tops_at hH ho
    rwa [Nat.zero_add] at this
  · refine ⟨by simp, fun j o _ h => ?_, he.size, he.defers, fun k v hk _ => he.get k v hk, fun j o d v _ _ _ h => ?_⟩
    · exfalso
      rcases Nat.lt_or_ge j l.length with h' | h' <;> simp [h'] at h
    · exfalso
      rcases Nat.lt_or_ge j l.length with h' | h' <;> simp [h'] at h
  · refine (hs.drew.takes (t (fun _ => undef))).imp fun _ H => ?_
    have : toks.filter (alive (Array.replicate l.length false)) = filt (fun t => t.src.isNone) toks := by
      rw [filt_eq]
      refine List.filter_congr fun t _ => ?_
      have hf : ∀ s, (Array.replicate l.length false).getD s false = false := fun s => by
        rcases Nat.lt_or_ge s l.length with h' | h' <;> simp [h']
      unfold alive
      cases t.src with
      | none => cases t.dst with
        | none => rfl
        | some j => simp only [hf]; rfl
      | some s => simp only [hf]; rfl
    rw [this]; exact H

/-- An operation that turns its own pieces, out of its rule. -/
theorem hn_of {o : Oper} {d : Nat} {F : Value → World → Prop} (hdst : o.dst = some d) (hw : wantE l0 E1 o.guard = some true) (hnd : isDefer o.op = false) (hdn : Nat.blt d n = true)
    (h : J w0 n D E1 L (O ro P l0.toArray [o] (fun e a w => e = .normal ∧ a.defers = D ∧ ∃ v, a.tmps[d]? = some v ∧ F v w))) : HN ro P w0 n D l0 E1 L F o := ⟨hw, fun a w he hs => by
  have h1 := h a w he hs
  simp only [O, wpListIn, wantE_spec he hw, if_true] at h1
  have h2 := h1.2
  rw [Oper.semAt_eq _ _ _ (not_defer hnd)] at h2
  have hlt : d < a.tmps.size := by rw [he.size]; simpa [Nat.blt_eq] using hdn
  have hput : ∀ u v w', (∃ x, (a.put o.dst u).tmps[d]? = some x ∧ F x w') → v = u → F v w' := fun u v w' ⟨x, hx, hs'⟩ e => by
    subst e
    simp only [hdst, Act.put, Array.getElem?_setIfInBounds, if_true, hlt] at hx
    cases hx; exact hs'
  revert h2
  generalize (execOp a.eval o).run P w = r
  intro h2
  cases r with
  | ok x w' =>
    cases x with
    | value u => exact hput u u w' h2.2.2 rfl
    | skip => exact hput undef undef w' h2.2.2 rfl
    | enter f args =>
      refine (callsFW.1 h2.2).mono ?_
      intro e w'' h3
      cases e with
      | returned v => exact ⟨v, rfl, hput v v w'' h3.2.2 rfl⟩
      | panicked c => cases h3.1
      | outgrown => obtain ⟨a1, w1, h4, _⟩ := h3; cases h4
    | row row args =>
      refine RowsIn.mono h2.2 ?_
      intro v w'' h3
      exact hput v v w'' h3.2.2 rfl
    | round l f tmps as body =>
      refine RoundIn.mono h2.2 ?_
      intro e w'' h3
      cases e with
      | returned v => exact ⟨v, rfl, hput v v w'' h3.2.2 rfl⟩
      | panicked c => cases h3.1
      | outgrown => obtain ⟨a1, w1, h4, _⟩ := h3; cases h4
    | defer c =>
      have h3 : ({ a with defers := c :: a.defers }.put o.dst undef).defers = D := h2.2.1
      rw [hdst] at h3
      simp only [Act.put, he.defers] at h3
      have := congrArg List.length h3
      simp at this
    | _ => exact h2.elim
  | halt x w' =>
    cases x with
    | panic v => cases h2.1
    | _ => exact h2.elim⟩
theorem hn_end {F : Value → World → Prop} {d : Nat} {v : Value} (hv : look E d = some v) (h : ∀ w, St w0 L w → F v w) : J w0 n D E L (fun a w => Exit.normal = .normal ∧ a.defers = D ∧ ∃ v, a.tmps[d]? = some v ∧ F v w) :=
  fun a w he hs => ⟨rfl, he.defers, v, he.get d v hv, h w hs⟩
end
end Go.Z
