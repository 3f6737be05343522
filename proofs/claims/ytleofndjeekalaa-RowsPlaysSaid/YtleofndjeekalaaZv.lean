/- Maps that may be nil; maps of the old memory. -/
import Derived.Test.YtleofndjeekalaaZm
import Derived.Test.YtleofndjeekalaaZe
set_option linter.unusedSectionVars false
namespace Go.Z
open Go Go.RowKit Go.Instr
section
variable {κ υ : Type} [DecidableEq κ] {kenc : κ → Value} {venc : υ → Value} {m : List (κ × υ)}
variable {w0 : World} {n : Nat} {D : List Deferred} {E E' : List (Nat × Value)} {L L' R As : List SP} {P : Program} {ro : Option Nat} {Q : Exit → Act → World → Prop} {l0 l : List Oper}
/-- A map's value: nil, or a block that holds m. -/
def MapV (v : Value) (kenc : κ → Value) (venc : υ → Value) (m : List (κ × υ)) : SP := fun h => (v = .map none ∧ m = []) ∨ ∃ b, v = .map (some b) ∧ MapP b kenc venc m h
theorem St.mapV {v : Value} {w : World} (H : St w0 (MapV v kenc venc m :: R) w) : (v = .map none ∧ m = [] ∧ St w0 R w) ∨ ∃ b, v = .map (some b) ∧ St w0 (MapP b kenc venc m :: R) w := by
  obtain ⟨hb, h, hh, h1, h2, d, s1, s2, a, l⟩ := H
  rcases a with ⟨e1, e2⟩ | ⟨b, e1, e2⟩
  · exact .inl ⟨e1, e2, hb, h, hh, sep_mono s2 l⟩
  · exact .inr ⟨b, e1, hb, h, hh, h1, h2, d, s1, s2, e2, l⟩
theorem mapV_nil {h : Hp} (H : sep R h) : sep (MapV (.map none) kenc venc ([] : List (κ × υ)) :: R) h :=
  ⟨fun _ => none, h, fun _ => .inl rfl, fun _ _ e => by simp at e, Sub.refl _, .inl ⟨rfl, rfl⟩, H⟩
theorem J.mapV_nil (kenc : κ → Value) (venc : υ → Value) {G : Act → World → Prop} (h : J w0 n D E (MapV (.map none) kenc venc ([] : List (κ × υ)) :: L) G) : J w0 n D E L G := h.st fun _ H => H.imp fun _ => Z.mapV_nil
theorem J.mapV_mk {b : Nat} {G : Act → World → Prop} (t : Take L (MapP b kenc venc m) R) (h : J w0 n D E (MapV (.map (some b)) kenc venc m :: R) G) : J w0 n D E L G :=
  h.st fun _ H => (H.take t).imp fun _ H' => sep_head (fun _ hc => .inr ⟨b, rfl, hc⟩) H'
theorem J.mapV {v : Value} {G : Act → World → Prop} (t : Take L (MapV v kenc venc m) R) (h1 : v = .map none → m = [] → J w0 n D E R G) (h2 : ∀ b, v = .map (some b) → J w0 n D E (MapP b kenc venc m :: R) G) : J w0 n D E L G := fun a w he hs => by
  rcases (hs.take t).mapV with ⟨e1, e2, h⟩ | ⟨b, e1, h⟩
  · exact h1 e1 e2 a w he h
  · exact h2 b e1 a w he h
theorem mapV_one {v : Value} {w : World} (H : St w0 (MapV v kenc venc m :: R) w) : v.oneCell' = true := by
  rcases H.mapV with ⟨e, _⟩ | ⟨b, e, _⟩ <;> rw [e] <;> rfl
theorem pv_lookupOkV {T kt vt R' : TypeId} {x y : Operand} {v : Value} {k : κ} (z : υ) (hx : ev E x = some v) (hy : ev E y = some (kenc k)) (hT : P.underlying T = some (.map kt vt)) (K : KeyOK P kt kenc) (hz : ∀ w, (zeroValue vt).run P w = .ok (venc z) w)
    (t : Take L (MapV v kenc venc m) R) : PV P w0 n D E L (.lookup T x y true) R' (.tuple #[venc (mval k z m), .bool (mget k m).isSome]) := fun act w he hs d1 d2 d3 d4 => by
  rcases (hs.take t).mapV with ⟨e1, e2, h⟩ | ⟨b, e1, h⟩
  · subst e1; subst e2
    have hf : (findKey kt (kenc k) []).run P w = .ok none w := K.find venc k [] [] w rfl
    simp only [execOp, he.ev hx, he.ev hy]
    unfold Instr.lookup
    simp [run_underlying hT, Result.andThen, K.check, hf, hz, mval, mget]
  · subst e1
    exact pv_lookupOkZ z hx hy hT K hz .here act w he h d1 d2 d3 d4
theorem pv_lookupV {T kt vt R' : TypeId} {x y : Operand} {v : Value} {k : κ} (z : υ) (hx : ev E x = some v) (hy : ev E y = some (kenc k)) (hT : P.underlying T = some (.map kt vt)) (K : KeyOK P kt kenc) (hz : ∀ w, (zeroValue vt).run P w = .ok (venc z) w)
    (t : Take L (MapV v kenc venc m) R) : PV P w0 n D E L (.lookup T x y false) R' (venc (mval k z m)) := fun act w he hs d1 d2 d3 d4 => by
  rcases (hs.take t).mapV with ⟨e1, e2, h⟩ | ⟨b, e1, h⟩
  · subst e1; subst e2
    have hf : (findKey kt (kenc k) []).run P w = .ok none w := K.find venc k [] [] w rfl
    simp only [execOp, he.ev hx, he.ev hy]
    unfold Instr.lookup
    simp [run_underlying hT, Result.andThen, K.check, hf, hz, mval, mget]
  · subst e1
    exact pv_lookupZ z hx hy hT K hz .here act w he h d1 d2 d3 d4
theorem pv_lenV {T kt vt R' : TypeId} {x : Operand} {v : Value} (hx : ev E x = some v) (hT : P.underlying T = some (.map kt vt)) (t : Take L (MapV v kenc venc m) R) :
    PV P w0 n D E L (.call ⟨.builtin .len, #[x], #[T]⟩) R' (.int .i64 m.length) := fun act w he hs d1 d2 d3 d4 => by
  rcases (hs.take t).mapV with ⟨e1, e2, h⟩ | ⟨b, e1, h⟩
  · subst e1; subst e2
    simp [execOp, resolve, invoke, builtin, Builtin.len_, he.ev hx, run_underlying hT, Result.andThen, goInt]
  · subst e1
    exact pv_lenM hx hT .here act w he h d1 d2 d3 d4
theorem s_deleteV0 {T kt vt R' : TypeId} {x y : Operand} {pos : String} {af : Array Edge} {g : Option (Nat × Bool)} {v : Value} {k : κ} (hx : ev E x = some v) (hy : ev E y = some (kenc k)) (hT : P.underlying T = some (.map kt vt)) (K : KeyOK P kt kenc)
    (t : Take L (MapV v kenc venc m) R) (kk : J w0 n D E (MapV v kenc venc (mdel k m) :: R) (O ro P l0.toArray l Q)) (hw : wantE l0 E g = some true := by rfl) :
    J w0 n D E L (O ro P l0.toArray (⟨none, .call ⟨.builtin .delete, #[x, y], #[T, kt]⟩, R', pos, af, g⟩ :: l) Q) := fun a w he hs => by
  rcases (hs.take t).mapV with ⟨e1, e2, h⟩ | ⟨b, e1, h⟩
  · subst e1; subst e2
    refine O_step rfl hw he ?_
    have : (Builtin.delete_ #[T, kt] R' #[.map none, kenc k]).run P w = .ok (.tuple #[]) w := by
      unfold Builtin.delete_
      simp [run_underlying hT, Result.andThen, K.check]
    simp [execOp, resolve, invoke, builtin, he.ev hx, he.ev hy, this, Result.andThen]
    exact kk _ _ he (h.imp fun _ => Z.mapV_nil)
  · subst e1
    exact s_delete0 hx hy hT K .here (kk.st fun _ H => H.imp fun _ H' => sep_head (fun _ hc => .inr ⟨b, rfl, hc⟩) H') hw a w he h
/-- A map against nil. -/
theorem pv_eqmapN {x y : Operand} {T T' R' kt vt : TypeId} (hx : ev E x = some (.map none)) (hy : ev E y = some (.map none)) (hT : P.underlying T = some (.map kt vt)) : PV P w0 n D E L (.binOp .eql T x y T') R' (.bool true) :=
  pv_eqv hx hy fun w => by
    have : (Op.equal T (.map none) (.map none)).run P w = .ok true w := run_equal_succ fun d => by simp [Op.equalIn, underlying, hT]
    simp [eqGuard, binOp, this]
theorem pv_eqmapS {x y : Operand} {T T' R' kt vt : TypeId} {b : Nat} (hx : ev E x = some (.map (some b))) (hy : ev E y = some (.map none)) (hT : P.underlying T = some (.map kt vt)) : PV P w0 n D E L (.binOp .eql T x y T') R' (.bool false) :=
  pv_eqv hx hy fun w => by
    have : (Op.equal T (.map (some b)) (.map none)).run P w = .ok false w := run_equal_succ fun d => by simp [Op.equalIn, underlying, hT]
    simp [eqGuard, binOp, this]
/-- A map of the old memory. -/
theorem pv_lookupR {T kt vt R' : TypeId} {x y : Operand} {b clock : Nat} {bs : List Nat} {k : κ} (z : υ) (hk : BOK m bs clock) (hb : b < w0.heap.size) (hm : w0.heap[b]? = some (.map (ents kenc venc m bs).toArray clock)) (hx : ev E x = some (.map (some b))) (hy : ev E y = some (kenc k)) (hT : P.underlying T = some (.map kt vt)) (K : KeyOK P kt kenc) (hz : ∀ w, (zeroValue vt).run P w = .ok (venc z) w) :
    PV P w0 n D E L (.lookup T x y false) R' (venc (mval k z m)) := fun act w he hs _ _ _ _ => by
  have hb' : w.heap[b]? = some (.map (ents kenc venc m bs).toArray clock) := by rw [hs.below.block b hb]; exact hm
  have hfind := K.find venc k m bs w hk.1
  simp only [execOp, he.ev hx, he.ev hy]
  unfold Instr.lookup
  simp only [Sem.run_bind, run_underlying hT, Result.andThen, getObj_of hb', K.check, hfind, Sem.run_pure]
  unfold mval
  rw [mget_fnd (i := 0)]
  cases mfnd k m 0 with
  | none => simp [hz]
  | some p => simp
/-- A block turned, whatever has been laid behind. -/
theorem St.turn {b : Nat} {o o' : Obj} {w w' : World} (H : St w0 (pt b o :: R) w) (h1 : w'.os = w.os) (h2 : w'.tape = w.tape) (h3 : w'.output = w.output) (h4 : w.heap.size ≤ w'.heap.size) (h5 : w.drawn ≤ w'.drawn) (h6 : ∀ j, j < w.heap.size → j ≠ b → w'.heap[j]? = w.heap[j]?) (h7 : w'.heap[b]? = some o') : St w0 (pt b o' :: R) w' := by
  have hbk := H.get_pt
  have hS := H.setB (o' := o') Upd.here
  obtain ⟨hb, h, hh, hsep⟩ := hS
  have hlt : b < w.heap.size := by
    rcases Nat.lt_or_ge b w.heap.size with h' | h'
    · exact h'
    · have := hbk.1; simp [Array.getElem?_eq_none h'] at this
  have key : ∀ j, j < w.heap.size → w'.heap[j]? = (w.heap.setIfInBounds b o')[j]? := fun j hj => by
    by_cases e : j = b
    · subst e; rw [h7]; simp [hlt]
    · rw [h6 j hj e, Array.getElem?_setIfInBounds, if_neg (fun h => e h.symm)]
  refine ⟨⟨hb.below.trans ⟨h1, h2, h3, by simpa using h4, fun j hj => ?_⟩, Nat.le_trans H.1.drawn h5⟩, h, fun k x hk => ?_, hsep⟩
  · exact key j (Nat.lt_of_lt_of_le hj (by have := H.below.size; exact this))
  · obtain ⟨g1, g2⟩ := hh k x hk
    refine ⟨g1, ?_⟩
    have hk' : k < w.heap.size := by
      rcases Nat.lt_or_ge k w.heap.size with h' | h'
      · exact h'
      · rw [Array.getElem?_eq_none (by simpa using h')] at g2; cases g2
    rw [key k hk']; exact g2
end
end Go.Z
