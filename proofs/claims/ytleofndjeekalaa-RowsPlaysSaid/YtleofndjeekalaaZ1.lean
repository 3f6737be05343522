/- The words of a small separation logic over the model: what a piece of memory holds, and how code turns it. -/
import Derived.WalkKit
import Derived.Below
import Derived.CallsIn
import Derived.OrdersIn
import Derived.TacticsIn
namespace Go.Z
open Go Go.RowKit

/-! ### the widest fence, in a round or not -/
abbrev FW (ro : Option Nat) : Fence := { fn := fun _ => True, depth := none, alive := false, round := ro }

theorem room_FW (ro : Option Nat) (n : Nat) : (FW ro).room n := fun _ h => by simp at h

theorem callsFW {ro : Option Nat} {n : Nat} {P : Program} {f : FuncId} {args : Array Value} {w : World} {R : Ending → World → Prop} :
    CallsIn (FW ro) n P f args w R ↔ Calls P f args w R :=
  ⟨fun h => (callsIn_wide (n := n)).1 ⟨trivial, fun cs _ => h.2 cs (room_FW _ _)⟩,
   fun h => ⟨trivial, fun cs _ => ((callsIn_wide (n := n)).2 h).2 cs (room_wide _)⟩⟩

/-! ### pieces of memory -/
abbrev Hp := Nat → Option Obj
abbrev SP := Hp → Prop
def Sub (h1 h : Hp) : Prop := ∀ k o, h1 k = some o → h k = some o
def Dsj (h1 h2 : Hp) : Prop := ∀ k, h1 k = none ∨ h2 k = none
def Uni (h1 h2 : Hp) : Hp := fun k => match h1 k with | some o => some o | none => h2 k

theorem Sub.refl (h : Hp) : Sub h h := fun _ _ e => e
theorem Sub.trans {a b c : Hp} (h : Sub a b) (k : Sub b c) : Sub a c := fun i o e => k i o (h i o e)
theorem Dsj.symm {a b : Hp} (h : Dsj a b) : Dsj b a := fun k => (h k).symm
theorem Dsj.sub {a b a' b' : Hp} (h : Dsj a b) (ha : Sub a' a) (hb : Sub b' b) : Dsj a' b' := fun k => by
  rcases h k with h | h
  · left; cases e : a' k with
    | none => rfl
    | some o => rw [ha k o e] at h; cases h
  · right; cases e : b' k with
    | none => rfl
    | some o => rw [hb k o e] at h; cases h
theorem Sub.uni_l (a b : Hp) : Sub a (Uni a b) := fun k o e => by simp [Uni, e]
theorem Sub.uni_r {a b : Hp} (h : Dsj a b) : Sub b (Uni a b) := fun k o e => by
  rcases h k with h | h
  · simp [Uni, h, e]
  · rw [h] at e; cases e
theorem Sub.uni {a b c : Hp} (ha : Sub a c) (hb : Sub b c) : Sub (Uni a b) c := fun k o e => by
  unfold Uni at e
  split at e
  · rename_i x hx; cases e; exact ha _ _ hx
  · exact hb _ _ e
theorem Dsj.uni {a b c : Hp} (ha : Dsj c a) (hb : Dsj c b) : Dsj c (Uni a b) := fun k => by
  rcases ha k with h | h
  · exact .inl h
  · rcases hb k with h' | h'
    · exact .inl h'
    · right; simp [Uni, h, h']

/-- The pieces of a list, apart from each other. -/
def sep : List SP → SP
  | [], _ => True
  | A :: L, h => ∃ h1 h2, Dsj h1 h2 ∧ Sub h1 h ∧ Sub h2 h ∧ A h1 ∧ sep L h2

theorem sep_mono {L : List SP} {h h' : Hp} (hs : Sub h h') (H : sep L h) : sep L h' := by
  cases L with
  | nil => trivial
  | cons A L => obtain ⟨h1, h2, d, s1, s2, a, l⟩ := H; exact ⟨h1, h2, d, s1.trans hs, s2.trans hs, a, l⟩

/-- 'A' stands in the list; the rest. -/
inductive Take : List SP → SP → List SP → Prop
  | here {A : SP} {L : List SP} : Take (A :: L) A L
  | there {A B : SP} {L L' : List SP} : Take L A L' → Take (B :: L) A (B :: L')

inductive Takes : List SP → List SP → List SP → Prop
  | nil {L : List SP} : Takes L [] L
  | cons {A : SP} {L L1 R As : List SP} : Take L A L1 → Takes L1 As R → Takes L (A :: As) R

/-- 'A' turned to 'A'' in its place. -/
inductive Upd : List SP → SP → SP → List SP → Prop
  | here {A A' : SP} {L : List SP} : Upd (A :: L) A A' (A' :: L)
  | there {A A' B : SP} {L L' : List SP} : Upd L A A' L' → Upd (B :: L) A A' (B :: L')

inductive App : List SP → List SP → List SP → Prop
  | nil {R : List SP} : App [] R R
  | cons {A : SP} {Q R L : List SP} : App Q R L → App (A :: Q) R (A :: L)

theorem App.eq {Q R L : List SP} (h : App Q R L) : L = Q ++ R := by
  induction h with
  | nil => rfl
  | cons _ ih => rw [ih]; rfl

theorem sep_swap {A B : SP} {L : List SP} {h : Hp} (H : sep (A :: B :: L) h) : sep (B :: A :: L) h := by
  obtain ⟨h1, h2, d, s1, s2, a, h3, h4, d', s3, s4, b, l⟩ := H
  exact ⟨h3, Uni h1 h4, .uni (d.sub (Sub.refl _) s3).symm d', s3.trans s2, .uni s1 (s4.trans s2), b, h1, h4, d.sub (Sub.refl _) s4, Sub.uni_l _ _, Sub.uni_r (d.sub (Sub.refl _) s4), a, l⟩

theorem sep_tail {A : SP} {L L' : List SP} (f : ∀ h, sep L h → sep L' h) {h : Hp} (H : sep (A :: L) h) : sep (A :: L') h := by
  obtain ⟨h1, h2, d, s1, s2, a, l⟩ := H
  exact ⟨h1, h2, d, s1, s2, a, f _ l⟩
theorem sep_head {A A' : SP} {L : List SP} (f : ∀ h, A h → A' h) {h : Hp} (H : sep (A :: L) h) : sep (A' :: L) h := by
  obtain ⟨h1, h2, d, s1, s2, a, l⟩ := H
  exact ⟨h1, h2, d, s1, s2, f _ a, l⟩

theorem Take.sep {L L' : List SP} {A : SP} (t : Take L A L') {h : Hp} (H : sep L h) : sep (A :: L') h := by
  induction t generalizing h with
  | here => exact H
  | there _ ih => exact sep_swap (sep_tail (fun _ h' => ih h') H)
theorem Take.unsep {L L' : List SP} {A : SP} (t : Take L A L') {h : Hp} (H : Z.sep (A :: L') h) : Z.sep L h := by
  induction t generalizing h with
  | here => exact H
  | there _ ih => exact sep_tail (fun _ h' => ih h') (sep_swap H)
theorem Takes.sep {L R As : List SP} (t : Takes L As R) {h : Hp} (H : Z.sep L h) : Z.sep (As ++ R) h := by
  induction t generalizing h with
  | nil => exact H
  | cons t _ ih => exact sep_tail (fun _ h' => ih h') (t.sep H)
theorem Takes.unsep {L R As : List SP} (t : Takes L As R) {h : Hp} (H : Z.sep (As ++ R) h) : Z.sep L h := by
  induction t generalizing h with
  | nil => exact H
  | cons t _ ih => exact t.unsep (sep_tail (fun _ h' => ih h') H)
theorem sep_pre {As R : List SP} {h : Hp} (H : sep (As ++ R) h) : sep As h := by
  induction As generalizing h with
  | nil => trivial
  | cons A As ih => exact sep_tail (fun _ h' => ih h') H
theorem Upd.takes {L L' : List SP} {A A' : SP} (u : Upd L A A' L') : ∃ R, Take L A R ∧ Take L' A' R := by
  induction u with
  | here => exact ⟨_, .here, .here⟩
  | there _ ih => obtain ⟨R, a, b⟩ := ih; exact ⟨_, .there a, .there b⟩

/-- A list of pieces as one piece. -/
theorem sep_flat {As R : List SP} {h : Hp} (H : sep (sep As :: R) h) : sep (As ++ R) h := by
  induction As generalizing h with
  | nil => obtain ⟨_, h2, _, _, s2, _, l⟩ := H; exact sep_mono s2 l
  | cons A As ih =>
    obtain ⟨h1, h2, d, s1, s2, ⟨h3, h4, d', s3, s4, a, l'⟩, l⟩ := H
    refine ⟨h3, Uni h4 h2, .uni d' (d.sub s3 (Sub.refl _)), s3.trans s1, .uni (s4.trans s1) s2, a, ih ?_⟩
    exact ⟨h4, h2, d.sub s4 (Sub.refl _), Sub.uni_l _ _, Sub.uni_r (d.sub s4 (Sub.refl _)), l', l⟩
theorem sep_fold {As R : List SP} {h : Hp} (H : sep (As ++ R) h) : sep (sep As :: R) h := by
  induction As generalizing h with
  | nil => exact ⟨fun _ => none, h, fun _ => .inl rfl, fun _ _ e => by simp at e, Sub.refl _, trivial, H⟩
  | cons A As ih =>
    obtain ⟨h1, h2, d, s1, s2, a, l⟩ := H
    obtain ⟨h3, h4, d', s3, s4, as, r⟩ := ih l
    refine ⟨Uni h1 h3, h4, (Dsj.uni (d.sub (Sub.refl _) s4).symm d'.symm).symm, .uni s1 (s3.trans s2), s4.trans s2, ?_, r⟩
    exact ⟨h1, h3, d.sub (Sub.refl _) s3, Sub.uni_l _ _, Sub.uni_r (d.sub (Sub.refl _) s3), a, as⟩

/-- There is an x .. -/
def ex {α : Type} (A : α → SP) : SP := fun h => ∃ x, A x h
theorem sep_ex {α : Type} {A : α → SP} {R : List SP} {h : Hp} : sep (ex A :: R) h ↔ ∃ x, sep (A x :: R) h := by
  constructor
  · rintro ⟨h1, h2, d, s1, s2, ⟨x, a⟩, l⟩; exact ⟨x, h1, h2, d, s1, s2, a, l⟩
  · rintro ⟨x, h1, h2, d, s1, s2, a, l⟩; exact ⟨h1, h2, d, s1, s2, ⟨x, a⟩, l⟩
/-- A fact beside a piece. -/
def wh (p : Prop) (A : SP) : SP := fun h => p ∧ A h
theorem sep_wh {p : Prop} {A : SP} {R : List SP} {h : Hp} : sep (wh p A :: R) h ↔ p ∧ sep (A :: R) h := by
  constructor
  · rintro ⟨h1, h2, d, s1, s2, ⟨x, a⟩, l⟩; exact ⟨x, h1, h2, d, s1, s2, a, l⟩
  · rintro ⟨x, h1, h2, d, s1, s2, a, l⟩; exact ⟨h1, h2, d, s1, s2, ⟨x, a⟩, l⟩

/-- Block b is o. -/
def pt (b : Nat) (o : Obj) : SP := fun h => h b = some o
/-- Block b is a row of cells. -/
def cl (b : Nat) (T : TypeId) (l : List Value) : SP := fun h => h b = some (.cells l.toArray T (0, 0))
theorem cl_pt (b : Nat) (T : TypeId) (l : List Value) : cl b T l = pt b (.cells l.toArray T (0, 0)) := rfl

/-- Below its heap's end the world is as w0 was; draws are never taken back. -/
structure Bel (w0 w : World) : Prop where
  below : Below w0.heap.size w0 w
  drawn : w0.drawn ≤ w.drawn
/-- The world is 'w0' below its heap's end; behind it lie the pieces. -/
def St (w0 : World) (L : List SP) (w : World) : Prop :=
  Bel w0 w ∧ ∃ h : Hp, (∀ k o, h k = some o → w0.heap.size ≤ k ∧ w.heap[k]? = some o) ∧ sep L h

section
variable {w0 w : World} {L L' R As : List SP} {A : SP}
theorem St.below (h : St w0 L w) : Below w0.heap.size w0 w := h.1.below
theorem St.init (w0 : World) : St w0 [] w0 := ⟨⟨Below.refl _ _, Nat.le_refl _⟩, fun _ => none, fun _ _ h => by simp at h, trivial⟩
theorem St.imp (f : ∀ h, sep L h → sep L' h) (H : St w0 L w) : St w0 L' w := ⟨H.1, let ⟨h, a, b⟩ := H.2; ⟨h, a, f h b⟩⟩
theorem St.takes (t : Takes L As R) (H : St w0 L w) : St w0 (As ++ R) w := H.imp fun _ h => t.sep h
theorem St.sub (t : Takes L As R) (H : St w0 L w) : St w0 As w := H.imp fun _ h => sep_pre (t.sep h)
theorem St.take (t : Take L A R) (H : St w0 L w) : St w0 (A :: R) w := H.imp fun _ h => t.sep h
theorem sep_drop {h : Hp} (H : sep (A :: R) h) : sep R h := let ⟨_, _, _, _, s2, _, l⟩ := H; sep_mono s2 l
theorem St.tail (H : St w0 (A :: R) w) : St w0 R w := H.imp fun _ => sep_drop
theorem St.drew (H : St w0 L w) : St w0 L { w with drawn := w.drawn + 1 } := ⟨⟨H.1.below.drew, Nat.le_succ_of_le H.1.drawn⟩, H.2⟩

theorem St.get_pt {b : Nat} {o : Obj} (H : St w0 (pt b o :: R) w) : w.heap[b]? = some o ∧ w0.heap.size ≤ b := by
  obtain ⟨_, h, hh, h1, h2, _, s1, _, a, _⟩ := H
  exact ⟨(hh _ _ (s1 _ _ a)).2, (hh _ _ (s1 _ _ a)).1⟩
theorem St.get {b : Nat} {o : Obj} (H : St w0 L w) (t : Take L (pt b o) R) : w.heap[b]? = some o := (St.take t H).get_pt.1
theorem St.getc {b : Nat} {T : TypeId} {l : List Value} (H : St w0 L w) (t : Take L (cl b T l) R) : w.heap[b]? = some (.cells l.toArray T (0, 0)) :=
  St.get_pt (R := R) (St.take t H) |>.1

theorem St.alloc (o : Obj) (H : St w0 L w) : St w0 (pt w.heap.size o :: L) (w.alloc o) := by
  obtain ⟨hb, h, hh, hs⟩ := H
  have hfresh : h w.heap.size = none := by
    cases e : h w.heap.size with
    | none => rfl
    | some o' => have := (hh _ _ e).2; simp at this
  refine ⟨⟨hb.below.alloc hb.below.size o, hb.drawn⟩, fun k => if k = w.heap.size then some o else h k, ?_, fun k => if k = w.heap.size then some o else none, h, ?_, ?_, ?_, by simp [pt], hs⟩
  · intro k o' hk
    by_cases e : k = w.heap.size
    · subst e; simp at hk; subst hk
      exact ⟨hb.below.size, by show (w.heap.push o)[_]? = _; simp⟩
    · simp [e] at hk
      obtain ⟨h1, h2⟩ := hh _ _ hk
      refine ⟨h1, ?_⟩
      have hlt : k < w.heap.size := by
        rcases Nat.lt_or_ge k w.heap.size with h' | h'
        · exact h'
        · simp [Array.getElem?_eq_none h'] at h2
      rw [Below.heap_alloc _ _ _ hlt]; exact h2
  · intro k
    by_cases e : k = w.heap.size
    · right; rw [e]; exact hfresh
    · left; simp [e]
  · intro k o' hk
    by_cases e : k = w.heap.size
    · simp [e] at hk ⊢; exact hk
    · simp [e] at hk
  · intro k o' hk
    by_cases e : k = w.heap.size
    · rw [e, hfresh] at hk; cases hk
    · simp [e]; exact hk

/-- A block turned to another object. -/
theorem St.setB {b : Nat} {o o' : Obj} (u : Upd L (pt b o) (pt b o') L') (H : St w0 L w) : St w0 L' { w with heap := w.heap.setIfInBounds b o' } := by
  obtain ⟨R, t, t'⟩ := u.takes
  obtain ⟨hb, h, hh, h1, h2, d, s1, s2, a, l⟩ := St.take t H
  have hbk := hh _ _ (s1 _ _ a)
  have h2b : h2 b = none := by
    rcases d b with e | e
    · rw [show h1 b = some o from a] at e; cases e
    · exact e
  have hlt : b < w.heap.size := by
    rcases Nat.lt_or_ge b w.heap.size with h' | h'
    · exact h'
    · have := hbk.2; simp [Array.getElem?_eq_none h'] at this
  refine ⟨⟨hb.below.trans ⟨rfl, rfl, rfl, by simp, fun k hk => ?_⟩, hb.drawn⟩, fun k => if k = b then some o' else h k, ?_, t'.unsep ⟨fun k => if k = b then some o' else none, h2, ?_, ?_, ?_, by simp [pt], l⟩⟩
  · have : b ≠ k := by have := hbk.1; omega
    simp [this]
  · intro k x hk
    by_cases e : k = b
    · subst e; simp at hk; subst hk; exact ⟨hbk.1, by simp [hlt]⟩
    · simp [e] at hk
      obtain ⟨g1, g2⟩ := hh _ _ hk
      refine ⟨g1, ?_⟩
      have : b ≠ k := fun h => e h.symm
      simp only [Array.getElem?_setIfInBounds, this, if_false]; exact g2
  · intro k
    by_cases e : k = b
    · right; rw [e]; exact h2b
    · left; simp [e]
  · intro k x hk
    by_cases e : k = b
    · simp [e] at hk ⊢; exact hk
    · simp [e] at hk
  · intro k x hk
    by_cases e : k = b
    · rw [e, h2b] at hk; cases hk
    · simp [e]; exact s2 _ _ hk

theorem setCell_eq {w : World} {b : Nat} {l : List Value} {T : TypeId} {off : Nat} {v : Value} (h : w.heap[b]? = some (.cells l.toArray T (0, 0))) :
    w.setCell ⟨b, off, none⟩ v = { w with heap := w.heap.setIfInBounds b (.cells (l.set off v).toArray T (0, 0)) } := by
  unfold World.setCell
  congr 1
  apply Array.ext_getElem?
  intro i
  simp only [Array.getElem?_modify, Array.getElem?_setIfInBounds]
  by_cases e : b = i
  · subst e
    have hlt : b < w.heap.size := by
      rcases Nat.lt_or_ge b w.heap.size with h' | h'
      · exact h'
      · simp [Array.getElem?_eq_none h'] at h
    rw [Array.getElem?_eq_getElem hlt] at h ⊢
    simp only [if_true, Option.map_some, hlt]
    rw [Option.some.inj h]
    simp
  · simp [e]

theorem St.set {b off : Nat} {T : TypeId} {l : List Value} {v : Value} (u : Upd L (cl b T l) (cl b T (l.set off v)) L') (H : St w0 L w) : St w0 L' (w.setCell ⟨b, off, none⟩ v) := by
  obtain ⟨R, t, _⟩ := u.takes
  rw [setCell_eq (H.getc t)]
  exact H.setB u
end

/-! ### frames -/
def look : List (Nat × Value) → Nat → Option Value
  | [], _ => none
  | (k, v) :: E, n => match Nat.beq k n with | true => some v | false => look E n

structure EnvOK (a : Act) (n : Nat) (D : List Deferred) (E : List (Nat × Value)) : Prop where
  size : a.tmps.size = n
  defers : a.defers = D
  get : ∀ k v, look E k = some v → a.tmps[k]? = some v

theorem EnvOK.put {a : Act} {n : Nat} {D : List Deferred} {E : List (Nat × Value)} {d : Nat} (h : EnvOK a n D E) (hd : Nat.blt d n = true) (v : Value) : EnvOK (a.put (some d) v) n D ((d, v) :: E) := by
  have hd' : d < n := by simpa [Nat.blt_eq] using hd
  refine ⟨by simp [Act.put, h.size], h.defers, fun k u hk => ?_⟩
  simp only [Act.put, Array.getElem?_setIfInBounds]
  unfold look at hk
  by_cases e : d = k
  · subst e
    have hb : Nat.beq d d = true := Nat.beq_refl d
    simp only [hb, Option.some.injEq] at hk
    simp [h.size, hd', hk]
  · have : Nat.beq d k = false := by
      cases hb : Nat.beq d k with
      | false => rfl
      | true => exact absurd (Nat.eq_of_beq_eq_true hb) e
    simp only [this] at hk
    simp [e]; exact h.get _ _ hk
theorem EnvOK.putNone {a : Act} {n : Nat} {D : List Deferred} {E : List (Nat × Value)} (h : EnvOK a n D E) (v : Value) : EnvOK (a.put none v) n D E := h

/-- An operand's value. -/
def ev (E : List (Nat × Value)) : Operand → Option Value
  | .tmp t => look E t
  | .const v => some v
  | .global g => some (.pointer (some ⟨g, 0, none⟩))
  | .func f => some (.func (.func f) #[] #[])

theorem EnvOK.ev {a : Act} {n : Nat} {D : List Deferred} {E : List (Nat × Value)} (h : EnvOK a n D E) {x : Operand} {v : Value} (e : Z.ev E x = some v) : a.eval x = v := by
  cases x with
  | tmp t =>
    have := h.get t v e
    have hlt : t < a.tmps.size := by
      rcases Nat.lt_or_ge t a.tmps.size with h' | h'
      · exact h'
      · simp [Array.getElem?_eq_none h'] at this
    simp only [Act.eval, Array.getD_eq_getD_getElem?, this, Option.getD_some]
  | const u => exact Option.some.inj e
  | global g => exact Option.some.inj e
  | func f => exact Option.some.inj e

def evs (E : List (Nat × Value)) : List Operand → Option (List Value)
  | [] => some []
  | x :: xs => match ev E x with
    | some v => match evs E xs with
      | some vs => some (v :: vs)
      | none => none
    | none => none
theorem EnvOK.evs {a : Act} {n : Nat} {D : List Deferred} {E : List (Nat × Value)} (h : EnvOK a n D E) {xs : List Operand} : ∀ {vs : List Value}, Z.evs E xs = some vs → xs.map a.eval = vs := by
  induction xs with
  | nil => intro vs e; simp [Z.evs] at e; subst e; rfl
  | cons x xs ih =>
    intro vs e
    simp only [Z.evs] at e
    split at e
    · rename_i v hv
      split at e
      · rename_i us hu
        cases e
        simp only [List.map_cons, h.ev hv, ih hu]
      · cases e
    · cases e

/-- The judgment: from whatever frame that reads E and whatever world that holds L. -/
def J (w0 : World) (n : Nat) (D : List Deferred) (E : List (Nat × Value)) (L : List SP) (G : Act → World → Prop) : Prop :=
  ∀ a w, EnvOK a n D E → St w0 L w → G a w

def Sube : List (Nat × Value) → List (Nat × Value) → Prop
  | [], _ => True
  | (k, v) :: E', E => look E k = some v ∧ Sube E' E
theorem Sube.look {E' E : List (Nat × Value)} (h : Sube E' E) : ∀ {k : Nat} {v : Value}, Z.look E' k = some v → Z.look E k = some v := by
  induction E' with
  | nil => intro k v e; simp [Z.look] at e
  | cons p E' ih =>
    intro k v e
    obtain ⟨h1, h2⟩ := h
    simp only [Z.look] at e
    split at e
    · rename_i hb; cases e; rw [← Nat.eq_of_beq_eq_true hb]; exact h1
    · exact ih h2 e

section
variable {w0 : World} {n : Nat} {D : List Deferred} {E E' : List (Nat × Value)} {L L' R As : List SP} {G G' : Act → World → Prop}
theorem J.mono (h : J w0 n D E L G) (hg : ∀ a w, G a w → G' a w) : J w0 n D E L G' := fun a w he hs => hg _ _ (h a w he hs)
theorem J.env (hE : Sube E' E) (h : J w0 n D E' L G) : J w0 n D E L G :=
  fun a w he hs => h a w ⟨he.size, he.defers, fun _ _ e => he.get _ _ (hE.look e)⟩ hs
theorem J.st (f : ∀ w, St w0 L w → St w0 L' w) (h : J w0 n D E L' G) : J w0 n D E L G := fun a w he hs => h a w he (f _ hs)
theorem J.takes (t : Takes L As R) (h : J w0 n D E As G) : J w0 n D E L G := h.st fun _ H => H.sub t
theorem J.take {A : SP} (t : Take L A R) (h : J w0 n D E (A :: R) G) : J w0 n D E L G := h.st fun _ H => H.take t
theorem J.ex {α : Type} {A : α → SP} (h : ∀ x, J w0 n D E (A x :: R) G) : J w0 n D E (ex A :: R) G :=
  fun a w he hs => let ⟨hb, hp, hh, H⟩ := hs; let ⟨x, H'⟩ := sep_ex.1 H; h x a w he ⟨hb, hp, hh, H'⟩
theorem J.wh {p : Prop} {A : SP} (h : p → J w0 n D E (A :: R) G) : J w0 n D E (wh p A :: R) G :=
  fun a w he hs => let ⟨hb, hp, hh, H⟩ := hs; let ⟨x, H'⟩ := sep_wh.1 H; h x a w he ⟨hb, hp, hh, H'⟩
theorem J.flat (h : J w0 n D E (As ++ R) G) : J w0 n D E (sep As :: R) G := h.st fun _ H => H.imp fun _ => sep_flat
theorem J.below (h : ∀ w, Below w0.heap.size w0 w → J w0 n D E L (fun a w' => w' = w → G a w')) : J w0 n D E L G := fun a w he hs => h w hs.below a w he hs rfl

/-! ### code -/
variable {ro : Option Nat} {P : Program} {Q : Exit → Act → World → Prop}
abbrev W (ro : Option Nat) (P : Program) (c : Code) (Q : Exit → Act → World → Prop) : Act → World → Prop := c.wpIn (FW ro) 0 P Q
abbrev O (ro : Option Nat) (P : Program) (ops : Array Oper) (l : List Oper) (Q : Exit → Act → World → Prop) : Act → World → Prop := wpListIn (FW ro) 0 P ops Q l

theorem j_seq {x y : Code} (h : J w0 n D E L (W ro P x (Exit.then (W ro P y Q) Q))) : J w0 n D E L (W ro P (.seq x y) Q) := h.mono fun _ _ => wpIn_seq
theorem j_skip (h : J w0 n D E L (Q .normal)) : J w0 n D E L (W ro P .skip Q) := h.mono fun _ _ => wpIn_skip
theorem j_label {l : Nat} (h : J w0 n D E L (Q .normal)) : J w0 n D E L (W ro P (.label l) Q) := h.mono fun _ _ => wpIn_label
theorem j_exit {id : Nat} (h : J w0 n D E L (Q (.exit id))) : J w0 n D E L (W ro P (.exit id) Q) := h.mono fun _ _ => wpIn_exit
theorem j_ret (h : J w0 n D E L (Q .ret)) : J w0 n D E L (W ro P .ret Q) := h.mono fun _ _ => wpIn_ret
theorem j_block {id : Nat} {c : Code} (h : J w0 n D E L (W ro P c (Exit.inBlock id Q))) : J w0 n D E L (W ro P (.block id c) Q) := h.mono fun _ _ => wpIn_block
theorem j_cond {c : Operand} {x y : Code} {t : Bool} (hc : ev E c = some (.bool t)) (h1 : t = true → J w0 n D E L (W ro P x Q)) (h2 : t = false → J w0 n D E L (W ro P y Q)) :
    J w0 n D E L (W ro P (.cond c x y) Q) := fun a w he hs => by
  refine wpIn_cond_split (t := t) (he.ev hc) (fun h => h1 h a w he hs) (fun h => h2 h a w he hs)
theorem j_then {next : Act → World → Prop} (h : J w0 n D E L next) : J w0 n D E L (Exit.then next Q .normal) := h
theorem j_then_ret {next : Act → World → Prop} (h : J w0 n D E L (Q .ret)) : J w0 n D E L (Exit.then next Q .ret) := h
theorem j_then_exit {next : Act → World → Prop} {i : Nat} (h : J w0 n D E L (Q (.exit i))) : J w0 n D E L (Exit.then next Q (.exit i)) := h
theorem j_blk {i : Nat} (h : J w0 n D E L (Q .normal)) : J w0 n D E L (Exit.inBlock i Q .normal) := h
theorem j_blk_ret {i : Nat} (h : J w0 n D E L (Q .ret)) : J w0 n D E L (Exit.inBlock i Q .ret) := h
theorem j_blk_here {i j : Nat} (e : j = i) (h : J w0 n D E L (Q .normal)) : J w0 n D E L (Exit.inBlock i Q (.exit j)) := fun a w he hs => by
  show Exit.inBlock i Q (.exit j) a w
  simp only [Exit.inBlock, e, if_true]; exact h a w he hs
theorem j_blk_out {i j : Nat} (e : Nat.beq j i = false) (h : J w0 n D E L (Q (.exit j))) : J w0 n D E L (Exit.inBlock i Q (.exit j)) := fun a w he hs => by
  show Exit.inBlock i Q (.exit j) a w
  have : j ≠ i := fun h => by rw [h, Nat.beq_refl] at e; cases e
  simp only [Exit.inBlock, this, if_false]; exact h a w he hs
theorem j_region {id : Nat} {l : List Oper} (h : J w0 n D E L (O ro P l.toArray l Q)) : J w0 n D E L (W ro P (.region id l.toArray false) Q) := h.mono fun _ _ => wpIn_region_lit
theorem j_nil {ops : Array Oper} (h : J w0 n D E L (Q .normal)) : J w0 n D E L (O ro P ops [] Q) := h

/-- A loop: X: what is told of a round's begin. -/
theorem j_loop {X : Type} {c : Code} (EE : X → List (Nat × Value)) (LL : X → List SP) (μ : X → Nat) (x : X)
    (round : ∀ x, J w0 n D (EE x) (LL x) (W ro P c (Exit.then (fun a' w' => ∃ y, μ y < μ x ∧ EnvOK a' n D (EE y) ∧ St w0 (LL y) w') Q))) :
    J w0 n D (EE x) (LL x) (W ro P (.loop c) Q) := by
  intro a w he hs b k cs hro hb hr
  have key : ∀ j x a w, μ x = j → EnvOK a n D (EE x) → St w0 (LL x) w →
      ∃ e a' w', Q e a' w' ∧ ArrivesIn (Machine.fenced P (FW ro)) P (lone (b.atR a (.code c :: .inLoop c :: k)) cs w) b k cs e a' w' := by
    intro j
    induction j using Nat.strongRecOn with
    | _ j ih =>
      intro x a w hj he hs
      obtain ⟨e, a₁, w₁, hq, harr⟩ := round x a w he hs b (.inLoop c :: k) cs hro hb hr
      cases e with
      | normal =>
        obtain ⟨y, hlt, he1, hs1⟩ := hq
        obtain ⟨e₂, a₂, w₂, hq₂, harr₂⟩ := ih (μ y) (hj ▸ hlt) y a₁ w₁ rfl he1 hs1
        exact ⟨e₂, a₂, w₂, hq₂, .of_steps (StepsIn.trans harr (.one (fenced_calm hb hr rfl) stepR_inLoop)) harr₂⟩
      | exit id => exact ⟨_, a₁, w₁, hq, .pass (x := .inLoop c) rfl (fun _ _ => .inl (by simp)) harr⟩
      | goto l => exact ⟨_, a₁, w₁, hq, .pass (x := .inLoop c) rfl (fun _ _ => .inl (by simp)) harr⟩
      | ret => exact ⟨_, a₁, w₁, hq, .pass (x := .inLoop c) rfl (fun _ _ => .inl (by simp)) harr⟩
      | panic ch => exact ⟨_, a₁, w₁, hq, .pass (x := .inLoop c) rfl (fun _ _ => .inl (by simp)) harr⟩
      | outgrown => exact ⟨_, a₁, w₁, hq, .pass (x := .inLoop c) rfl (fun _ _ => .inl (by simp)) harr⟩
  obtain ⟨e, a', w', hq, harr⟩ := key _ x a w rfl he hs
  exact ⟨e, a', w', hq, .of_steps (.one (fenced_calm hb hr rfl) stepR_loop) harr⟩
theorem j_next {X : Type} {EE : X → List (Nat × Value)} {LL : X → List SP} {μ : X → Nat} {x : X} (y : X) (hm : μ y < μ x) (hE : Sube (EE y) E) (t : Takes L (LL y) R) :
    J w0 n D E L (fun a' w' => ∃ y, μ y < μ x ∧ EnvOK a' n D (EE y) ∧ St w0 (LL y) w') :=
  fun _ _ he hs => ⟨y, hm, ⟨he.size, he.defers, fun _ _ e => he.get _ _ (hE.look e)⟩, hs.sub t⟩
end
end Go.Z
