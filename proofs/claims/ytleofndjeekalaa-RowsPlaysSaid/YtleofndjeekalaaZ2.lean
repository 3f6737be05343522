/- The words of a small separation logic over the model: the operations. -/
import Derived.Test.YtleofndjeekalaaZ1
namespace Go.Z
open Go Go.RowKit

theorem cell_of_block {w : World} {b : Nat} {l : List Value} {T : TypeId} {fr : Nat × Nat} (h : w.heap[b]? = some (.cells l.toArray T fr)) (o : Nat) : w.cell? ⟨b, o, none⟩ = l[o]? := by
  simp [World.cell?, h]
theorem frozen_of_block {w : World} {b : Nat} {c : Array Value} {T : TypeId} (h : w.heap[b]? = some (.cells c T (0, 0))) (o : Nat) : w.frozen? ⟨b, o, none⟩ = false := by
  simp [World.frozen?, h]
theorem add_none (b o n : Nat) : (⟨b, o, none⟩ : Addr).add n = ⟨b, o + n, none⟩ := by
  unfold Addr.add; split
  · rename_i h; subst h; rfl
  · rfl

/-- n cells from place 'off' on. -/
def slc : List Value → Nat → Nat → Option (List Value)
  | _, 0, 0 => some []
  | [], 0, _ + 1 => none
  | x :: l, 0, n + 1 => match slc l 0 n with | some r => some (x :: r) | none => none
  | [], _ + 1, _ => none
  | _ :: l, o + 1, n => slc l o n
theorem slc_iff : ∀ (l : List Value) (o n : Nat) (r : List Value), slc l o n = some r ↔ o + n ≤ l.length ∧ r = (l.drop o).take n ∨ False := by
  intro l o n r
  induction l generalizing o n r with
  | nil =>
    cases o with
    | zero => cases n with
      | zero => simp [slc, eq_comm]
      | succ n => simp [slc]
    | succ o => simp [slc]
  | cons x l ih =>
    cases o with
    | zero => cases n with
      | zero => simp [slc, eq_comm]
      | succ n =>
        simp only [slc]
        cases h : slc l 0 n with
        | none =>
          simp only [List.length_cons, List.drop_zero, List.take_succ_cons]
          constructor
          · intro h; cases h
          · rintro (⟨h1, _⟩ | h)
            · have := (ih 0 n (l.take n)).2 (.inl ⟨by omega, by simp⟩)
              rw [h] at this; cases this
            · exact h.elim
        | some q =>
          obtain ⟨h1, h2⟩ | h := (ih 0 n q).1 h
          · subst h2
            simp only [List.drop_zero, List.length_cons, List.take_succ_cons, Option.some.injEq, or_false]
            constructor
            · intro e; exact ⟨by omega, e.symm⟩
            · rintro ⟨_, e⟩; exact e.symm
          · exact h.elim
    | succ o =>
      simp only [slc, ih, List.length_cons, List.drop_succ_cons, or_false]
      constructor
      · rintro ⟨h1, h2⟩; exact ⟨by omega, h2⟩
      · rintro ⟨h1, h2⟩; exact ⟨by omega, h2⟩
theorem slc_spec {l : List Value} {o n : Nat} {r : List Value} (h : slc l o n = some r) : o + n ≤ l.length ∧ r = (l.drop o).take n := ((slc_iff l o n r).1 h).resolve_right id
theorem slc_mk {l : List Value} {o n : Nat} (h : o + n ≤ l.length) : slc l o n = some ((l.drop o).take n) := (slc_iff _ _ _ _).2 (.inl ⟨h, rfl⟩)
theorem slc_len {l : List Value} {o n : Nat} {r : List Value} (h : slc l o n = some r) : r.length = n := by
  obtain ⟨h1, h2⟩ := slc_spec h; subst h2; simp; omega
theorem slc_get {l : List Value} {o n : Nat} {r : List Value} (h : slc l o n = some r) {j : Nat} {v : Value} (hj : r[j]? = some v) : l[o + j]? = some v := by
  obtain ⟨h1, h2⟩ := slc_spec h; subst h2
  rw [List.getElem?_take] at hj
  split at hj
  · rwa [List.getElem?_drop] at hj
  · cases hj

/-- Cells laid over a list from place 'off' on. -/
def ovw : List Value → Nat → List Value → Option (List Value)
  | l, 0, [] => some l
  | [], 0, _ :: _ => none
  | _ :: l, 0, v :: vs => match ovw l 0 vs with | some r => some (v :: r) | none => none
  | [], _ + 1, _ => none
  | x :: l, o + 1, vs => match ovw l o vs with | some r => some (x :: r) | none => none
theorem ovw_nil {l l' : List Value} {o : Nat} (h : ovw l o [] = some l') : l' = l := by
  induction l generalizing o l' with
  | nil => cases o <;> simp [ovw] at h; exact h
  | cons x l ih =>
    cases o with
    | zero => simp [ovw] at h; exact h.symm
    | succ o =>
      simp only [ovw] at h
      split at h
      · rename_i r hr; cases h; rw [ih hr]
      · cases h
theorem ovw_cons {l l' : List Value} {o : Nat} {v : Value} {vs : List Value} (h : ovw l o (v :: vs) = some l') : o < l.length ∧ ovw (l.set o v) (o + 1) vs = some l' := by
  induction l generalizing o l' with
  | nil => cases o <;> simp [ovw] at h
  | cons x l ih =>
    cases o with
    | zero =>
      simp only [ovw] at h
      split at h
      · rename_i r hr; cases h
        refine ⟨by simp, ?_⟩
        simp only [List.set_cons_zero, ovw, hr]
      · cases h
    | succ o =>
      simp only [ovw] at h
      split at h
      · rename_i r hr; cases h
        obtain ⟨h1, h2⟩ := ih hr
        refine ⟨by simp; omega, ?_⟩
        simp only [List.set_cons_succ, ovw, h2]
      · cases h

def ones : List Value → Bool
  | [] => true
  | .agg _ :: _ => false
  | .tuple _ :: _ => false
  | _ :: l => ones l
theorem ones_cons {v : Value} {l : List Value} (h : ones (v :: l) = true) : v.oneCell' = true ∧ ones l = true := by
  cases v <;> simp_all [ones, Value.oneCell']

section
variable {w0 : World} {n : Nat} {D : List Deferred} {E E' : List (Nat × Value)} {L L' R As : List SP} {P : Program} {ro : Option Nat} {Q : Exit → Act → World → Prop} {l0 l : List Oper}

theorem run_storeCells {b : Nat} {T : TypeId} : ∀ (vs : List Value) (L L' : List SP) (c c' : List Value) (o i : Nat) (w : World), ovw c (o + i) vs = some c' → ones vs = true → Upd L (cl b T c) (cl b T c') L' → St w0 L w →
    ∃ w', (storeCells ⟨b, o, none⟩ vs i).run P w = .ok () w' ∧ St w0 L' w' := by
  intro vs
  induction vs with
  | nil =>
    intro L L' c c' o i w h _ u hs
    have := ovw_nil h
    subst this
    refine ⟨w, rfl, ?_⟩
    obtain ⟨R, t, t'⟩ := u.takes
    exact hs.imp fun _ H => t'.unsep (t.sep H)
  | cons v vs ih =>
    intro L L' c c' o i w h h1 u hs
    obtain ⟨hv, hvs⟩ := ones_cons h1
    obtain ⟨hlt, h2⟩ := ovw_cons h
    obtain ⟨R, t, t'⟩ := u.takes
    have hg := hs.getc t
    have hs1 : St w0 (cl b T (c.set (o + i) v) :: R) (w.setCell ⟨b, o + i, none⟩ v) := (hs.take t).set Upd.here
    obtain ⟨w', hr, hs'⟩ := ih (cl b T (c.set (o + i) v) :: R) (cl b T c' :: R) (c.set (o + i) v) c' o (i + 1) _ (by rw [← Nat.add_assoc]; exact h2) hvs Upd.here hs1
    refine ⟨w', ?_, hs'.imp fun _ H => t'.unsep H⟩
    simp only [storeCells, Sem.run_bind, add_none]
    rw [run_store P w _ v _ hv, cell_of_block hg, List.getElem?_eq_getElem hlt, frozen_of_block hg]
    simp only [Bool.false_eq_true, if_false, Result.andThen]
    exact hr

theorem run_loadCells_cl {b o k : Nat} {T : TypeId} {c r : List Value} {w : World} (hs : St w0 L w) (t : Take L (cl b T c) R) (h : slc c o k = some r) :
    (loadCells ⟨b, o, none⟩ k).run P w = .ok r.toArray w := by
  have hg := hs.getc t
  have := run_loadCells_list (P := P) w ⟨b, o, none⟩ r (fun j v hj => by rw [add_none, cell_of_block hg]; exact slc_get h hj)
  rwa [slc_len h] at this

/-! ### guards -/
def wantE (l0 : List Oper) (E : List (Nat × Value)) (g : Option (Nat × Bool)) : Option Bool :=
  match g with
  | none => some true
  | some (j, want) => match l0[j]? with
    | some oj => match oj.dst with
      | some d => match look E d with
        | some (.bool b) => some (b == want)
        | some (.tuple _) => some false
        | _ => none
      | none => none
    | none => none
theorem wantE_spec {a : Act} {o : Oper} {b : Bool} (he : EnvOK a n D E) (h : wantE l0 E o.guard = some b) : Region.wanted o (yielded l0.toArray a.tmps) = b := by
  unfold Region.wanted
  unfold wantE at h
  split at h
  · rename_i hg; rw [hg]; exact Option.some.inj h
  · rename_i j want hg
    rw [hg]
    simp only
    split at h
    · rename_i oj hoj
      split at h
      · rename_i d hd
        split at h
        · rename_i c hc
          have := he.get _ _ hc
          have hy : yielded l0.toArray a.tmps j = some c := by
            simp only [yielded, List.getElem?_toArray, hoj, Option.bind_some, hd, this]
          rw [hy, ← Option.some.inj h]
          simp
        · rename_i c hc
          have := he.get _ _ hc
          have hy : yielded l0.toArray a.tmps j = none := by
            simp only [yielded, List.getElem?_toArray, hoj, Option.bind_some, hd, this]
          rw [hy, ← Option.some.inj h]
          simp
        · cases h
      · cases h
    · cases h

/-- What an operation yields that turns nothing. -/
def PV (P : Program) (w0 : World) (n : Nat) (D : List Deferred) (E : List (Nat × Value)) (L : List SP) (op : Op) (T : TypeId) (v : Value) : Prop :=
  ∀ a w, EnvOK a n D E → St w0 L w → ∀ dst pos af g, (execOp a.eval ⟨dst, op, T, pos, af, g⟩).run P w = .ok (.value v) w
def isDefer : Op → Bool
  | .defer _ => true
  | _ => false
theorem not_defer {op : Op} (h : isDefer op = false) : ∀ c, op ≠ .defer c := by intro c e; subst e; simp [isDefer] at h

/-- An operation carried out: its result is 'x' in the world 'w''. -/
theorem O_step {a : Act} {w : World} {o : Oper} (hn : isDefer o.op = false) (hw : wantE l0 E o.guard = some true) (he : EnvOK a n D E)
    (h : o.uponIn (FW ro) 0 P a (wpListIn (FW ro) 0 P l0.toArray Q l) Q ((execOp a.eval o).run P w)) : wpListIn (FW ro) 0 P l0.toArray Q (o :: l) a w := by
  simp only [wpListIn, wantE_spec he hw, if_true]
  refine ⟨fun _ _ => trivial, ?_⟩
  rw [Oper.semAt_eq _ _ _ (not_defer hn)]
  exact h

theorem s_val {op : Op} {T : TypeId} {pos : String} {af : Array Edge} {g : Option (Nat × Bool)} {d : Nat} {v : Value} (hpv : PV P w0 n D E L op T v) (k : J w0 n D ((d, v) :: E) L (O ro P l0.toArray l Q))
    (hn : isDefer op = false := by rfl) (hd : Nat.blt d n = true := by rfl) (hw : wantE l0 E g = some true := by rfl) :
    J w0 n D E L (O ro P l0.toArray (⟨some d, op, T, pos, af, g⟩ :: l) Q) := fun a w he hs => by
  refine O_step hn hw he ?_
  rw [hpv a w he hs]
  exact k _ _ (he.put hd v) hs
theorem s_val0 {op : Op} {T : TypeId} {pos : String} {af : Array Edge} {g : Option (Nat × Bool)} {v : Value} (hpv : PV P w0 n D E L op T v) (k : J w0 n D E L (O ro P l0.toArray l Q))
    (hn : isDefer op = false := by rfl) (hw : wantE l0 E g = some true := by rfl) :
    J w0 n D E L (O ro P l0.toArray (⟨none, op, T, pos, af, g⟩ :: l) Q) := fun a w he hs => by
  refine O_step hn hw he ?_
  rw [hpv a w he hs]
  exact k _ _ he hs
/-- A guarded operation that is passed over. -/
theorem s_skip {o : Oper} {d : Nat} (k : J w0 n D ((d, undef) :: E) L (O ro P l0.toArray l Q)) (hd' : o.dst = some d := by rfl) (hd : Nat.blt d n = true := by rfl) (hw : wantE l0 E o.guard = some false := by rfl) :
    J w0 n D E L (O ro P l0.toArray (o :: l) Q) := fun a w he hs => by
  show wpListIn (FW ro) 0 P l0.toArray Q (o :: l) a w
  simp only [wpListIn, wantE_spec he hw, hd']
  exact ⟨fun _ _ => trivial, k _ _ (he.put hd _) hs⟩
theorem s_skip0 {o : Oper} (k : J w0 n D E L (O ro P l0.toArray l Q)) (hd' : o.dst = none := by rfl) (hw : wantE l0 E o.guard = some false := by rfl) :
    J w0 n D E L (O ro P l0.toArray (o :: l) Q) := fun a w he hs => by
  show wpListIn (FW ro) 0 P l0.toArray Q (o :: l) a w
  simp only [wpListIn, wantE_spec he hw, hd']
  exact ⟨fun _ _ => trivial, k _ _ he hs⟩
theorem EnvOK.again {a : Act} {d : Nat} {v : Value} (he : EnvOK a n D E) (hl : look E d = some v) : EnvOK a n D ((d, v) :: E) := by
  refine ⟨he.size, he.defers, fun k u hk => ?_⟩
  unfold look at hk
  split at hk
  · rename_i e; cases hk; rw [← Nat.eq_of_beq_eq_true e]; exact he.get _ _ hl
  · exact he.get _ _ hk
/-- A bool in a slot, told apart. -/
theorem s_split {G : Act → World → Prop} (d : Nat) {t : Bool} (hl : look E d = some (.bool t)) (h1 : t = true → J w0 n D ((d, .bool true) :: E) L G) (h2 : t = false → J w0 n D ((d, .bool false) :: E) L G) : J w0 n D E L G := by
  intro a w he hs
  cases t with
  | true => exact h1 rfl a w (he.again hl) hs
  | false => exact h2 rfl a w (he.again hl) hs
/-- A slot's value by another name. -/
theorem s_is {G : Act → World → Prop} (d : Nat) {v v' : Value} (hl : look E d = some v) (e : v = v') (h : J w0 n D ((d, v') :: E) L G) : J w0 n D E L G := by
  subst e
  exact fun a w he hs => h a w (he.again hl) hs
/-- What follows the operations is met from one frame and one list of pieces. -/
theorem O_mono {ops : Array Oper} {Q' : Exit → Act → World → Prop} (hq : ∀ e a w, Q e a w → Q' e a w) : ∀ (l : List Oper) (a : Act) (w : World), O ro P ops l Q a w → O ro P ops l Q' a w := by
  intro l
  induction l with
  | nil => intro a w h; exact hq _ _ _ h
  | cons o l ih =>
    intro a w h
    simp only [O, wpListIn] at h ⊢
    split
    · rename_i hw
      simp only [hw, if_true] at h
      refine ⟨h.1, ?_⟩
      have h2 := h.2
      revert h2
      generalize (o.semAt (FW ro).round a.eval).run P w = r
      intro h2
      cases r with
      | ok x w' =>
        cases x with
        | value v => exact ih _ _ h2
        | skip => exact ih _ _ h2
        | defer d => exact ih _ _ h2
        | enter f args => refine ⟨h2.1, h2.2.mono ?_⟩; intro e w'' h3; cases e with
          | returned v => exact ih _ _ h3
          | panicked c => exact hq _ _ _ h3
          | outgrown => obtain ⟨a1, w1, h4⟩ := h3; exact ⟨a1, w1, hq _ _ _ h4⟩
        | row row args => refine ⟨h2.1, h2.2.mono ?_⟩; intro e w'' h3; exact ih _ _ h3
        | round l f tmps as body => refine ⟨h2.1, h2.2.mono ?_⟩; intro e w'' h3; cases e with
          | returned v => exact ih _ _ h3
          | panicked c => exact hq _ _ _ h3
          | outgrown => obtain ⟨a1, w1, h4⟩ := h3; exact ⟨a1, w1, hq _ _ _ h4⟩
        | _ => exact h2.elim
      | halt x w' =>
        cases x with
        | panic v => exact hq _ _ _ h2
        | _ => exact h2.elim
    · rename_i hw
      simp only [hw] at h
      exact ⟨h.1, ih _ _ h.2⟩
def At (w0 : World) (n : Nat) (D : List Deferred) (E : List (Nat × Value)) (L : List SP) : Exit → Act → World → Prop
  | .normal => fun a w => EnvOK a n D E ∧ St w0 L w
  | _ => fun _ _ => False
theorem s_cut {ops : Array Oper} (E' : List (Nat × Value)) (L' : List SP) (h : J w0 n D E L (O ro P ops l (At w0 n D E' L'))) (k : J w0 n D E' L' (Q .normal)) : J w0 n D E L (O ro P ops l Q) :=
  h.mono fun a w H => O_mono (fun e a w hq => by cases e <;> first | exact k _ _ hq.1 hq.2 | exact hq.elim) _ _ _ H
theorem s_at (hE : Sube E' E) (t : Takes L L' R) : J w0 n D E L (At w0 n D E' L' .normal) :=
  fun _ _ he hs => ⟨⟨he.size, he.defers, fun _ _ e => he.get _ _ (hE.look e)⟩, hs.sub t⟩

/-! ### values -/
theorem pv_move {x : Operand} {T : TypeId} {v : Value} (h : ev E x = some v) : PV P w0 n D E L (.move x) T v := fun a w he _ _ _ _ _ => by
  simp only [execOp, he.ev h]; rfl
theorem pv_assign {x : Operand} {T : TypeId} {v : Value} (h : ev E x = some v) : PV P w0 n D E L (.assign x) T v := fun a w he _ _ _ _ _ => by
  simp only [execOp, he.ev h]; rfl
theorem pv_pick {c x y : Operand} {T : TypeId} {v : Value} {t : Bool} (hc : ev E c = some (.bool t)) (h : (bif t then ev E x else ev E y) = some v) : PV P w0 n D E L (.pick c x y) T v := fun a w he _ _ _ _ _ => by
  cases t
  · simp only [execOp, he.ev hc, he.ev (show ev E y = some v from h), asBool]; rfl
  · simp only [execOp, he.ev hc, he.ev (show ev E x = some v from h), asBool]; rfl
theorem run_eqGuard_int {op : BinOp} {t : TypeId} {x y : Operand} {k k' : IntKind} {a b : Int} {w : World} : (eqGuard op t x y (.int k a) (.int k' b)).run P w = .ok () w := by
  unfold eqGuard; split <;> rfl
theorem pv_bin {op : BinOp} {x y : Operand} {T T' R' : TypeId} {k : IntKind} {a b : Int} {v : Value} (hx : ev E x = some (.int k a)) (hy : ev E y = some (.int k b))
    (h : ∀ w, (binOp op T (.int k a) (.int k b)).run P w = .ok v w) : PV P w0 n D E L (.binOp op T x y T') R' v := fun act w he _ _ _ _ _ => by
  simp only [execOp, he.ev hx, he.ev hy, Sem.run_bind, run_eqGuard_int, h, Result.andThen]; rfl
theorem pv_add {x y : Operand} {T T' R' : TypeId} {k : IntKind} {a b c : Int} (hx : ev E x = some (.int k a)) (hy : ev E y = some (.int k b)) (hc : k.wrap (a + b) = c) : PV P w0 n D E L (.binOp .add T x y T') R' (.int k c) :=
  pv_bin hx hy fun w => by subst hc; simp [binOp, Op.intArith]
theorem pv_sub {x y : Operand} {T T' R' : TypeId} {k : IntKind} {a b c : Int} (hx : ev E x = some (.int k a)) (hy : ev E y = some (.int k b)) (hc : k.wrap (a - b) = c) : PV P w0 n D E L (.binOp .sub T x y T') R' (.int k c) :=
  pv_bin hx hy fun w => by subst hc; simp [binOp, Op.intArith]
theorem pv_mul {x y : Operand} {T T' R' : TypeId} {k : IntKind} {a b c : Int} (hx : ev E x = some (.int k a)) (hy : ev E y = some (.int k b)) (hc : k.wrap (a * b) = c) : PV P w0 n D E L (.binOp .mul T x y T') R' (.int k c) :=
  pv_bin hx hy fun w => by subst hc; simp [binOp, Op.intArith]
theorem pv_quo {x y : Operand} {T T' R' : TypeId} {k : IntKind} {a b c : Int} (hx : ev E x = some (.int k a)) (hy : ev E y = some (.int k b)) (h0 : b ≠ 0) (hc : k.wrap (a.tdiv b) = c) : PV P w0 n D E L (.binOp .quo T x y T') R' (.int k c) :=
  pv_bin hx hy fun w => by subst hc; simp [binOp, Op.intDiv, h0]
theorem pv_rem {x y : Operand} {T T' R' : TypeId} {k : IntKind} {a b c : Int} (hx : ev E x = some (.int k a)) (hy : ev E y = some (.int k b)) (h0 : b ≠ 0) (hc : a.tmod b = c) : PV P w0 n D E L (.binOp .rem T x y T') R' (.int k c) :=
  pv_bin hx hy fun w => by subst hc; simp [binOp, Op.intDiv, h0]
theorem pv_lss {x y : Operand} {T T' R' : TypeId} {k : IntKind} {a b : Int} (hx : ev E x = some (.int k a)) (hy : ev E y = some (.int k b)) : PV P w0 n D E L (.binOp .lss T x y T') R' (.bool (decide (a < b))) :=
  pv_bin hx hy fun w => by simp [binOp, Op.intCmp]
theorem pv_leq {x y : Operand} {T T' R' : TypeId} {k : IntKind} {a b : Int} (hx : ev E x = some (.int k a)) (hy : ev E y = some (.int k b)) : PV P w0 n D E L (.binOp .leq T x y T') R' (.bool (decide (a ≤ b))) :=
  pv_bin hx hy fun w => by simp [binOp, Op.intCmp]
theorem pv_gtr {x y : Operand} {T T' R' : TypeId} {k : IntKind} {a b : Int} (hx : ev E x = some (.int k a)) (hy : ev E y = some (.int k b)) : PV P w0 n D E L (.binOp .gtr T x y T') R' (.bool (decide (b < a))) :=
  pv_bin hx hy fun w => by simp [binOp, Op.intCmp]
theorem pv_geq {x y : Operand} {T T' R' : TypeId} {k : IntKind} {a b : Int} (hx : ev E x = some (.int k a)) (hy : ev E y = some (.int k b)) : PV P w0 n D E L (.binOp .geq T x y T') R' (.bool (decide (b ≤ a))) :=
  pv_bin hx hy fun w => by simp [binOp, Op.intCmp]
theorem pv_eql {x y : Operand} {T T' R' : TypeId} {k : IntKind} {a b : Int} (hx : ev E x = some (.int k a)) (hy : ev E y = some (.int k b)) : PV P w0 n D E L (.binOp .eql T x y T') R' (.bool (decide (a = b))) :=
  pv_bin hx hy fun w => by simp [binOp, Op.intCmp]; rfl
theorem pv_neq {x y : Operand} {T T' R' : TypeId} {k : IntKind} {a b : Int} (hx : ev E x = some (.int k a)) (hy : ev E y = some (.int k b)) : PV P w0 n D E L (.binOp .neq T x y T') R' (.bool (!decide (a = b))) :=
  pv_bin hx hy fun w => by simp [binOp, Op.intCmp]; rfl
theorem pv_shl {x y : Operand} {T T' R' : TypeId} {k k' : IntKind} {a b c : Int} (hx : ev E x = some (.int k a)) (hy : ev E y = some (.int k' b)) (h0 : 0 ≤ b) (hc : k.wrap (a * 2 ^ (min b.toNat k.bits)) = c) : PV P w0 n D E L (.binOp .shl T x y T') R' (.int k c) := fun act w he _ _ _ _ _ => by
  subst hc
  have : ¬ b < 0 := by omega
  simp only [execOp, he.ev hx, he.ev hy, Sem.run_bind, run_eqGuard_int, Result.andThen, binOp, Op.shift, this, if_false]; rfl
theorem pv_shr {x y : Operand} {T T' R' : TypeId} {k k' : IntKind} {a b c : Int} (hx : ev E x = some (.int k a)) (hy : ev E y = some (.int k' b)) (h0 : 0 ≤ b) (hc : a.fdiv (2 ^ (min b.toNat k.bits)) = c) : PV P w0 n D E L (.binOp .shr T x y T') R' (.int k c) := fun act w he _ _ _ _ _ => by
  subst hc
  have : ¬ b < 0 := by omega
  simp only [execOp, he.ev hx, he.ev hy, Sem.run_bind, run_eqGuard_int, Result.andThen, binOp, Op.shift, this, if_false]; rfl
def bitsOf (op : BinOp) (k : IntKind) (x y : Int) : Int :=
  let a := BitVec.ofInt k.bits x
  let b := BitVec.ofInt k.bits y
  k.wrap (match op with | .and => a &&& b | .or => a ||| b | .xor => a ^^^ b | _ => a &&& ~~~b : BitVec k.bits).toNat
theorem pv_bits {op : BinOp} {x y : Operand} {T T' R' : TypeId} {k : IntKind} {a b c : Int} (hx : ev E x = some (.int k a)) (hy : ev E y = some (.int k b)) (hc : bitsOf op k a b = c) (hop : (op = .and ∨ op = .or) ∨ (op = .xor ∨ op = .andNot) := by simp) : PV P w0 n D E L (.binOp op T x y T') R' (.int k c) :=
  pv_bin hx hy fun w => by subst hc; rcases hop with (h | h) | (h | h) <;> subst h <;> simp [binOp, Op.intBits, bitsOf]
theorem pv_eqv {op : BinOp} {x y : Operand} {T T' R' : TypeId} {u v : Value} {r : Bool} (hx : ev E x = some u) (hy : ev E y = some v) (h : ∀ w, (do eqGuard op T x y u v; binOp op T u v).run P w = .ok (.bool r) w) : PV P w0 n D E L (.binOp op T x y T') R' (.bool r) := fun act w he _ _ _ _ _ => by
  have h := h w
  simp only [Sem.run_bind] at h
  simp only [execOp, he.ev hx, he.ev hy, Sem.run_bind]
  rw [h]; rfl
theorem run_equal_succ {T : TypeId} {x y : Value} {w : World} {r : Result Bool} (h : ∀ d, (Op.equalIn (d + 1) T x y).run P w = r) : (Op.equal T x y).run P w = r := h 9999
theorem run_equal_bool {T : TypeId} {a b : Bool} {w : World} (hT : P.underlying T = some .bool) : (Op.equal T (.bool a) (.bool b)).run P w = .ok (a == b) w :=
  run_equal_succ fun d => by simp [Op.equalIn, underlying, hT]
theorem pv_eqlb {x y : Operand} {T T' R' : TypeId} {a b : Bool} (hx : ev E x = some (.bool a)) (hy : ev E y = some (.bool b)) (hT : P.underlying T = some .bool) : PV P w0 n D E L (.binOp .eql T x y T') R' (.bool (a == b)) :=
  pv_eqv hx hy fun w => by simp [eqGuard, binOp, run_equal_bool hT]
theorem pv_neqb {x y : Operand} {T T' R' : TypeId} {a b : Bool} (hx : ev E x = some (.bool a)) (hy : ev E y = some (.bool b)) (hT : P.underlying T = some .bool) : PV P w0 n D E L (.binOp .neq T x y T') R' (.bool (!(a == b))) :=
  pv_eqv hx hy fun w => by simp [eqGuard, binOp, run_equal_bool hT]
theorem pv_not {x : Operand} {T R' : TypeId} {b : Bool} (hx : ev E x = some (.bool b)) : PV P w0 n D E L (.unOp .not T x) R' (.bool !b) := fun act w he _ _ _ _ _ => by
  simp only [execOp, he.ev hx]; rfl
theorem pv_neg {x : Operand} {T R' : TypeId} {k : IntKind} {a c : Int} (hx : ev E x = some (.int k a)) (hc : k.wrap (0 - a) = c) : PV P w0 n D E L (.unOp .neg T x) R' (.int k c) := fun act w he _ _ _ _ _ => by
  subst hc; simp only [execOp, he.ev hx]; rfl
theorem pv_com {x : Operand} {T R' : TypeId} {k : IntKind} {a c : Int} (hx : ev E x = some (.int k a)) (hc : bitsOf .xor k (if k.signed then -1 else k.max) a = c) : PV P w0 n D E L (.unOp .xor T x) R' (.int k c) := fun act w he _ _ _ _ _ => by
  subst hc; simp only [execOp, he.ev hx]; rfl
theorem pv_conv {x : Operand} {S T R' : TypeId} {k k' : IntKind} {a c : Int} {ds : TypeDesc} (hx : ev E x = some (.int k a)) (hS : P.underlying S = some ds) (hi : ds = .int k) (hT : P.underlying T = some (.int k')) (hc : k'.wrap a = c) : PV P w0 n D E L (.convert S T x) R' (.int k' c) := fun act w he _ _ _ _ _ => by
  subst hc; subst hi; simp only [execOp, he.ev hx]; simp [convert, underlying, hS, hT, Conv.intToInt]
theorem pv_extract {x : Operand} {i : Nat} {R' : TypeId} {vs : List Value} {v : Value} (hx : ev E x = some (.tuple vs.toArray)) (hv : vs[i]? = some v) : PV P w0 n D E L (.extract x i) R' v := fun act w he _ _ _ _ _ => by
  simp only [execOp, he.ev hx, Instr.extract, List.getElem?_toArray, hv]; rfl
theorem pv_nil {x : Operand} {R' : TypeId} {p : Addr} (hx : ev E x = some (.pointer (some p))) : PV P w0 n D E L (.nilCheck x) R' (.pointer (some p)) := fun act w he _ _ _ _ _ => by
  simp only [execOp, he.ev hx]; rfl
theorem pv_fieldAddr {x : Operand} {s f : Nat} {R' : TypeId} {b o z o' : Nat} {fs : Array Field} {fd : Field} (hx : ev E x = some (.pointer (some ⟨b, o, none⟩))) (hs : P.underlying s = some (.struct fs)) (hf : fs[f]? = some fd)
    (hz : ∀ w, (sizeOf fd.type).run P w = .ok (z + 1) w) (ho : o + fd.offset = o') : PV P w0 n D E L (.fieldAddr s x f) R' (.pointer (some ⟨b, o', none⟩)) := fun act w he _ _ _ _ _ => by
  subst ho
  simp only [execOp, he.ev hx]
  simp [Instr.fieldAt, underlying, hs, hf, Instr.sureAddr, fieldPlace, hz, add_none]
theorem pv_field1 {x : Operand} {s f : Nat} {R' : TypeId} {l : List Value} {v : Value} {fs : Array Field} {fd : Field} (hx : ev E x = some (.agg l.toArray)) (hs : P.underlying s = some (.struct fs)) (hf : fs[f]? = some fd)
    (hg : ∀ w, (isAgg fd.type).run P w = .ok false w) (hv : l[fd.offset]? = some v) : PV P w0 n D E L (.field s x f) R' v := fun act w he _ _ _ _ _ => by
  simp only [execOp, he.ev hx]
  simp [Instr.field, underlying, hs, hf, asAgg, part, hg, hv]
theorem pv_fieldA {x : Operand} {s f z : Nat} {R' : TypeId} {l r : List Value} {fs : Array Field} {fd : Field} (hx : ev E x = some (.agg l.toArray)) (hs : P.underlying s = some (.struct fs)) (hf : fs[f]? = some fd)
    (hg : ∀ w, (isAgg fd.type).run P w = .ok true w) (hz : ∀ w, (sizeOf fd.type).run P w = .ok z w) (hv : slc l fd.offset z = some r) : PV P w0 n D E L (.field s x f) R' (.agg r.toArray) := fun act w he _ _ _ _ _ => by
  simp only [execOp, he.ev hx]
  obtain ⟨h1, h2⟩ := slc_spec hv
  simp [Instr.field, underlying, hs, hf, asAgg, part, hg, hz, h2]
theorem pv_load1 {x : Operand} {T R' : TypeId} {b o : Nat} {Tb : TypeId} {c : List Value} {v : Value} (hx : ev E x = some (.pointer (some ⟨b, o, none⟩))) (t : Take L (cl b Tb c) R) (hg : ∀ w, (isAgg T).run P w = .ok false w) (hv : c[o]? = some v) :
    PV P w0 n D E L (.load T x) R' v := fun act w he hs _ _ _ _ => by
  simp only [execOp, he.ev hx]
  simp [Instr.loadAt, Instr.sureAddr, loadVar, hg, cell_of_block (hs.getc t), hv]
theorem pv_loadA {x : Operand} {T R' : TypeId} {b o z : Nat} {Tb : TypeId} {c r : List Value} (hx : ev E x = some (.pointer (some ⟨b, o, none⟩))) (t : Take L (cl b Tb c) R) (hg : ∀ w, (isAgg T).run P w = .ok true w) (hz : ∀ w, (sizeOf T).run P w = .ok z w) (hv : slc c o z = some r) :
    PV P w0 n D E L (.load T x) R' (.agg r.toArray) := fun act w he hs _ _ _ _ => by
  simp only [execOp, he.ev hx]
  simp [Instr.loadAt, Instr.sureAddr, loadVar, hg, hz, run_loadCells_cl hs t hv]
/-- Cells of the old memory. -/
def Ro (w0 : World) (b o : Nat) (vs : List Value) : Prop := b < w0.heap.size ∧ ∀ j v, vs[j]? = some v → w0.cell? ⟨b, o + j, none⟩ = some v
theorem Ro.cell {b o : Nat} {vs : List Value} (h : Ro w0 b o vs) {w : World} (hs : St w0 L w) {j : Nat} {v : Value} (hj : vs[j]? = some v) : w.cell? ⟨b, o + j, none⟩ = some v := by
  rw [hs.below.cell (p := ⟨b, o + j, none⟩) h.1]; exact h.2 j v hj
theorem pv_load1r {x : Operand} {T R' : TypeId} {b o j o' : Nat} {c : List Value} {v : Value} (hx : ev E x = some (.pointer (some ⟨b, o', none⟩))) (h : Ro w0 b o c) (ho : o' = o + j) (hg : ∀ w, (isAgg T).run P w = .ok false w) (hv : c[j]? = some v) :
    PV P w0 n D E L (.load T x) R' v := fun act w he hs _ _ _ _ => by
  subst ho
  simp only [execOp, he.ev hx]
  simp [Instr.loadAt, Instr.sureAddr, loadVar, hg, h.cell hs hv]
theorem pv_loadAr {x : Operand} {T R' : TypeId} {b o j o' z : Nat} {c r : List Value} (hx : ev E x = some (.pointer (some ⟨b, o', none⟩))) (h : Ro w0 b o c) (ho : o' = o + j) (hg : ∀ w, (isAgg T).run P w = .ok true w) (hz : ∀ w, (sizeOf T).run P w = .ok z w) (hv : slc c j z = some r) :
    PV P w0 n D E L (.load T x) R' (.agg r.toArray) := fun act w he hs _ _ _ _ => by
  subst ho
  simp only [execOp, he.ev hx]
  have := run_loadCells_list (P := P) w ⟨b, o + j, none⟩ r (fun i v hi => by rw [add_none, Nat.add_assoc]; exact h.cell hs (slc_get hv hi))
  rw [slc_len hv] at this
  simp [Instr.loadAt, Instr.sureAddr, loadVar, hg, hz, this]
theorem pv_indexAddr {x y : Operand} {T R' : TypeId} {b o len cap z el o' : Nat} {k : IntKind} {i : Int} (hx : ev E x = some (.slice (some ⟨b, o, none⟩) len cap)) (hy : ev E y = some (.int k i)) (hT : P.underlying T = some (.slice el)) (hz : ∀ w, (sizeOf el).run P w = .ok z w)
    (h : 0 ≤ i ∧ i < len) (ho : o + i.toNat * z = o') : PV P w0 n D E L (.indexAddr T x y) R' (.pointer (some ⟨b, o', none⟩)) := fun act w he _ _ _ _ _ => by
  subst ho
  simp only [execOp, he.ev hx, he.ev hy]
  simp [Instr.indexAt, asIntOf, underlying, hT, hz, h.1, h.2, add_none]
theorem pv_len {x : Operand} {T R' : TypeId} {p : Option Addr} {len cap : Nat} {el : TypeId} (hx : ev E x = some (.slice p len cap)) (hT : P.underlying T = some (.slice el)) :
    PV P w0 n D E L (.call ⟨.builtin .len, #[x], #[T]⟩) R' (.int .i64 len) := fun act w he _ _ _ _ _ => by
  simp [execOp, resolve, invoke, builtin, Builtin.len_, underlying, hT, he.ev hx, goInt]
theorem pv_lens {x : Operand} {T R' : TypeId} {s : ByteArray} (hx : ev E x = some (.string s)) (hT : P.underlying T = some .string) :
    PV P w0 n D E L (.call ⟨.builtin .len, #[x], #[T]⟩) R' (.int .i64 s.size) := fun act w he _ _ _ _ _ => by
  simp [execOp, resolve, invoke, builtin, Builtin.len_, underlying, hT, he.ev hx, goInt]
theorem pv_min {x y : Operand} {T T' R' : TypeId} {k : IntKind} {a b : Int} (hx : ev E x = some (.int k a)) (hy : ev E y = some (.int k b)) :
    PV P w0 n D E L (.call ⟨.builtin .min, #[x, y], #[T, T']⟩) R' (.int k (if b < a then b else a)) := fun act w he _ _ _ _ _ => by
  simp [execOp, resolve, invoke, builtin, Builtin.min_, Builtin.min2, he.ev hx, he.ev hy]
theorem pv_max {x y : Operand} {T T' R' : TypeId} {k : IntKind} {a b : Int} (hx : ev E x = some (.int k a)) (hy : ev E y = some (.int k b)) :
    PV P w0 n D E L (.call ⟨.builtin .max, #[x, y], #[T, T']⟩) R' (.int k (if a < b then b else a)) := fun act w he _ _ _ _ _ => by
  simp [execOp, resolve, invoke, builtin, Builtin.max_, Builtin.max2, he.ev hx, he.ev hy]
theorem pv_func {fn : Fn} {fs cs : List Operand} {R' : TypeId} {vs us : List Value} (hf : evs E fs = some vs) (hc : evs E cs = some us) : PV P w0 n D E L (.makeFunc fn fs.toArray cs.toArray) R' (.func fn vs.toArray us.toArray) := fun act w he _ _ _ _ _ => by
  simp [execOp, Instr.makeFunc, he.evs hf, he.evs hc]
theorem pv_is {op : Op} {T : TypeId} {v v' : Value} (h : PV P w0 n D E L op T v) (e : v = v') : PV P w0 n D E L op T v' := e ▸ h
theorem bool_t {p : Prop} [Decidable p] (h : p) : Value.bool (decide p) = .bool true := by rw [decide_eq_true h]
theorem bool_f {p : Prop} [Decidable p] (h : ¬ p) : Value.bool (decide p) = .bool false := by rw [decide_eq_false h]

/-! ### a struct's literal -/
/-- The places of a struct's fields. -/
def Pl (P : Program) (T : TypeId) (pl : List (Nat × Nat)) : Prop :=
  ∃ fs, P.underlying T = some (.struct fs) ∧ ∀ w, (fs.mapM (fun f => do pure (f.offset, ← sizeOf f.type)) : Sem (Array (Nat × Nat))).run P w = .ok pl.toArray w
def fillL (pl : List (Nat × Nat)) : List Value → List (Nat × List Value) → Option (List Value)
  | c, [] => some c
  | c, (i, vs) :: rest => match pl[i]? with
    | some (off, size) => match Nat.beq vs.length size with
      | true => match ovw c off vs with
        | some c' => fillL pl c' rest
        | none => none
      | false => none
    | none => none
def evp (E : List (Nat × Value)) : List (Nat × Operand) → Option (List (Nat × Value))
  | [] => some []
  | (i, x) :: xs => match ev E x with
    | some v => match evp E xs with
      | some vs => some ((i, v) :: vs)
      | none => none
    | none => none
def cellsL : Value → List Value
  | .agg c => c.toList
  | v => [v]
def cellsP : List (Nat × Value) → List (Nat × List Value)
  | [] => []
  | (i, v) :: l => (i, cellsL v) :: cellsP l
theorem cellsL_spec (v : Value) : v.cells = (cellsL v).toArray := by cases v <;> simp [Value.cells, cellsL]
theorem EnvOK.evp {a : Act} (h : EnvOK a n D E) {xs : List (Nat × Operand)} : ∀ {vs : List (Nat × Value)}, Z.evp E xs = some vs → xs.map (fun (i, x) => (i, a.eval x)) = vs := by
  induction xs with
  | nil => intro vs e; simp [Z.evp] at e; subst e; rfl
  | cons x xs ih =>
    obtain ⟨i, x⟩ := x
    intro vs e
    simp only [Z.evp] at e
    split at e
    · rename_i v hv
      split at e
      · rename_i us hu
        cases e
        simp only [List.map_cons, h.ev hv]
        rw [ih hu]
      · cases e
    · cases e
theorem foldl_ovw {off : Nat} : ∀ (vs : List Value) (k : Nat) (c c' : List Value), ovw c (off + k) vs = some c' →
    (vs.zipIdx k).foldl (fun (cs : Array Value) (p : Value × Nat) => cs.setIfInBounds (off + p.2) p.1) c.toArray = c'.toArray := by
  intro vs
  induction vs with
  | nil => intro k c c' h; rw [ovw_nil h]; rfl
  | cons v vs ih =>
    intro k c c' h
    obtain ⟨h1, h2⟩ := ovw_cons h
    simp only [List.zipIdx_cons, List.foldl_cons, List.setIfInBounds_toArray]
    exact ih (k + 1) _ _ (by rw [← Nat.add_assoc]; exact h2)
theorem ovw_len : ∀ {vs c c' : List Value} {o : Nat}, ovw c o vs = some c' → o + vs.length ≤ c.length ∨ vs = [] := by
  intro vs
  induction vs with
  | nil => intro c c' o _; exact .inr rfl
  | cons v vs ih =>
    intro c c' o h
    obtain ⟨h1, h2⟩ := ovw_cons h
    left
    rcases ih h2 with h3 | h3
    · simp at h3 ⊢; omega
    · subst h3; simp; omega
theorem fill_spec {pl : List (Nat × Nat)} : ∀ {ps : List (Nat × Value)} {c r : List Value}, fillL pl c (cellsP ps) = some r → (∀ p ∈ ps, cellsL p.2 ≠ []) → Instr.fill (fun x => pl[x]?) c.toArray ps = some r.toArray := by
  intro ps
  induction ps with
  | nil => intro c r h _; simp [cellsP, fillL] at h; subst h; rfl
  | cons p ps ih =>
    obtain ⟨i, v⟩ := p
    intro c r h hne
    simp only [cellsP, fillL] at h
    split at h
    · rename_i off size hpl
      split at h
      · rename_i hb
        split at h
        · rename_i c' ho
          have hsz := Nat.eq_of_beq_eq_true hb
          have hlen : off + (cellsL v).length ≤ c.length := (ovw_len ho).resolve_right (hne (i, v) (by simp))
          simp only [Instr.fill, hpl]
          have h1 : v.cells.size = size := by rw [cellsL_spec]; simpa using hsz
          have h2 : ¬ (off + v.cells.size > c.toArray.size) := by rw [h1]; simp; omega
          have h1' : ¬ (v.cells.size ≠ size) := fun h => h h1
          simp only [h1', h2, decide_false, Bool.or_self, Bool.false_eq_true, if_false]
          have h3 := foldl_ovw (off := off) (cellsL v) 0 c c' (by simpa using ho)
          have h4 : (v.cells.zipIdx.foldl (fun (cs : Array Value) (p : Value × Nat) => cs.setIfInBounds (off + p.2) p.1) c.toArray) = c'.toArray := by
            rw [← h3, cellsL_spec, ← Array.foldl_toList]; simp
          have h5 := ih h (fun p hp => hne p (by simp [hp]))
          rw [← h4] at h5
          exact h5
        · cases h
      · cases h
    · cases h
def noEmpty : List (Nat × List Value) → Bool
  | [] => true
  | (_, []) :: _ => false
  | (_, _ :: _) :: l => noEmpty l
theorem noEmpty_spec : ∀ {ps : List (Nat × Value)}, noEmpty (cellsP ps) = true → ∀ p ∈ ps, cellsL p.2 ≠ [] := by
  intro ps
  induction ps with
  | nil => intro _ p hp; cases hp
  | cons q ps ih =>
    obtain ⟨i, v⟩ := q
    intro h p hp
    simp only [cellsP] at h
    cases hc : cellsL v with
    | nil => rw [hc] at h; simp [noEmpty] at h
    | cons x xs =>
      rw [hc] at h
      rcases List.mem_cons.1 hp with e | e
      · subst e; simp [hc]
      · exact ih h p e
theorem pv_build {T R' : TypeId} {parts : List (Nat × Operand)} {pl : List (Nat × Nat)} {vs : List (Nat × Value)} {z r : List Value} (hv : evp E parts = some vs) (hz : ∀ w, (zeroValue T).run P w = .ok (.agg z.toArray) w) (hp : Pl P T pl) (hf : fillL pl z (cellsP vs) = some r) (hne : noEmpty (cellsP vs) = true := by rfl) :
    PV P w0 n D E L (.build T parts.toArray) R' (.agg r.toArray) := fun act w he _ _ _ _ _ => by
  obtain ⟨fs, hu, hm⟩ := hp
  have := fill_spec hf (noEmpty_spec hne)
  simp only [execOp, List.map_toArray, he.evp hv, Instr.build, Sem.run_bind, hz, Result.andThen, underlying, run_program, hu, Sem.run_pure, hm, Value.cells, List.getElem?_toArray, this]
end
end Go.Z
