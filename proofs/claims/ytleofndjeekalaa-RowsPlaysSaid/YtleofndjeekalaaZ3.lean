/- The words of a small separation logic over the model: what turns memory, calls, returns. -/
import Derived.Test.YtleofndjeekalaaZ2
namespace Go.Z
open Go Go.RowKit

/-- 'f' is a function with a body. -/
def IsFn (P : Program) (f : FuncId) : Prop := ∀ args w, (callFunc f args).run P w = .ok (.enter f args) w
theorem isFn_of {P : Program} {f : FuncId} {fn : Func} (hf : P.funcs[f]? = some fn) (hb : fn.body.isNone = false) (hn : (fn.name == "runtime.NumGoroutine") = false) : IsFn P f := fun args w => by
  unfold callFunc
  simp only [Sem.run_bind, run_program, Result.andThen, hf, hn, hb, Bool.false_eq_true, if_false]
  rfl

/-- What a call comes to. -/
def Fn (P : Program) (w0 : World) (f : FuncId) (args : List Value) (Pre : List SP) (Post : Value → List SP → Prop) : Prop :=
  ∀ Fr w, St w0 (Pre ++ Fr) w → Calls P f args.toArray w fun e w' => ∃ v Q, e = .returned v ∧ Post v Q ∧ St w0 (Q ++ Fr) w'
/-- What a call comes to: one value, one list of pieces. -/
def FnD (P : Program) (w0 : World) (f : FuncId) (args : List Value) (Pre : List SP) (v : Value) (Q : List SP) : Prop :=
  ∀ Fr w, St w0 (Pre ++ Fr) w → Calls P f args.toArray w fun e w' => e = .returned v ∧ St w0 (Q ++ Fr) w'
theorem FnD.fn {P : Program} {w0 : World} {f : FuncId} {args : List Value} {Pre : List SP} {v : Value} {Q : List SP} (h : FnD P w0 f args Pre v Q) : Fn P w0 f args Pre fun u q => u = v ∧ q = Q :=
  fun Fr w hs => (h Fr w hs).mono fun _ _ ⟨a, b⟩ => ⟨v, Q, a, ⟨rfl, rfl⟩, b⟩
theorem Fn.fnD {P : Program} {w0 : World} {f : FuncId} {args : List Value} {Pre : List SP} {v : Value} {Q : List SP} (h : Fn P w0 f args Pre fun u q => u = v ∧ q = Q) : FnD P w0 f args Pre v Q :=
  fun Fr w hs => (h Fr w hs).mono fun _ _ ⟨_, _, a, ⟨b, c⟩, d⟩ => by subst b; subst c; exact ⟨a, d⟩
theorem Fn.mono {P : Program} {w0 : World} {f : FuncId} {args : List Value} {Pre : List SP} {Post Post' : Value → List SP → Prop} (h : Fn P w0 f args Pre Post) (hp : ∀ v Q, Post v Q → Post' v Q) : Fn P w0 f args Pre Post' :=
  fun Fr w hs => (h Fr w hs).mono fun _ _ ⟨v, Q, a, b, c⟩ => ⟨v, Q, a, hp _ _ b, c⟩

section
variable {w0 : World} {n : Nat} {D : List Deferred} {E E' : List (Nat × Value)} {L L' R As : List SP} {P : Program} {ro : Option Nat} {Q : Exit → Act → World → Prop} {l0 l : List Oper}

def zipE : Nat → List Value → List (Nat × Value)
  | _, [] => []
  | k, v :: vs => (k, v) :: zipE (k + 1) vs
theorem look_zipE {args : List Value} : ∀ {k j : Nat} {v : Value}, look (zipE k args) j = some v → k ≤ j ∧ args[j - k]? = some v := by
  induction args with
  | nil => intro k j v h; simp [zipE, look] at h
  | cons x xs ih =>
    intro k j v h
    simp only [zipE, look] at h
    split at h
    · rename_i hb; cases h; have := Nat.eq_of_beq_eq_true hb; subst this; simp
    · obtain ⟨h1, h2⟩ := ih h
      refine ⟨by omega, ?_⟩
      rw [show j - k = (j - (k + 1)) + 1 by omega, List.getElem?_cons_succ]; exact h2
theorem envOK_args {args : List Value} (h : args.length ≤ n) : EnvOK { tmps := args.toArray ++ Array.replicate (n - args.toArray.size) undef, defers := [] } n [] (zipE 0 args) := by
  refine ⟨by simp; omega, rfl, fun k v hk => ?_⟩
  obtain ⟨_, h2⟩ := look_zipE hk
  rw [Nat.sub_zero] at h2
  have hlt : k < args.length := by
    rcases Nat.lt_or_ge k args.length with h' | h'
    · exact h'
    · rw [List.getElem?_eq_none h'] at h2; cases h2
  rw [Array.getElem?_append_left (by simpa using hlt)]
  simpa using h2

theorem fn_enter {f : FuncId} {fn : Func} {c : Code} {args : List Value} {Pre : List SP} {Post : Value → List SP → Prop} (hf : P.funcs[f]? = some fn) (hb : fn.body = some c) (hn : fn.ntmps = n) (ha : Nat.ble args.length n = true)
    (h : ∀ Fr, J w0 n [] (zipE 0 args) (Pre ++ Fr) (W none P c (bodyPost P fn fun e w' => ∃ v Q, e = .returned v ∧ Post v Q ∧ St w0 (Q ++ Fr) w'))) : Fn P w0 f args Pre Post := fun Fr w hs => by
  refine (callsFW (ro := none) (n := 0)).1 (callsIn_of_wp hf hb trivial ?_)
  rw [hn]
  exact h Fr _ _ (envOK_args (by simpa using ha)) hs

/-- The results. -/
def RV (P : Program) (w0 : World) (n : Nat) (D : List Deferred) (E : List (Nat × Value)) (L : List SP) (rs : List ResultVar) (v : Value) : Prop :=
  ∀ fn : Func, fn.results = rs.toArray → ∀ a w, EnvOK a n D E → St w0 L w → (results fn a.tmps).run P w = .ok v w
def RV1 (P : Program) (w0 : World) (n : Nat) (D : List Deferred) (E : List (Nat × Value)) (L : List SP) (r : ResultVar) (v : Value) : Prop :=
  ∀ a w, EnvOK a n D E → St w0 L w → (match r with | .tmp t => pure (a.tmps.getD t undef) | .cell x t => do loadVar t (← asAddr (a.tmps.getD x undef)) : Sem Value).run P w = .ok v w
theorem getD_of_look {a : Act} {t : Nat} {v : Value} (he : EnvOK a n D E) (h : look E t = some v) : a.tmps.getD t undef = v := he.ev (x := .tmp t) h
theorem rv_tmp {t : Nat} {v : Value} (h : look E t = some v) : RV1 P w0 n D E L (.tmp t) v := fun a w he _ => by
  simp only [getD_of_look he h]; rfl
theorem rv_cell1 {x : Nat} {T : TypeId} {b o : Nat} {Tb : TypeId} {c : List Value} {v : Value} (hx : look E x = some (.pointer (some ⟨b, o, none⟩))) (t : Take L (cl b Tb c) R) (hg : ∀ w, (isAgg T).run P w = .ok false w) (hv : c[o]? = some v) : RV1 P w0 n D E L (.cell x T) v := fun a w he hs => by
  simp [getD_of_look he hx, asAddr, loadVar, hg, cell_of_block (hs.getc t), hv]
theorem rv_cellA {x : Nat} {T : TypeId} {b o z : Nat} {Tb : TypeId} {c r : List Value} (hx : look E x = some (.pointer (some ⟨b, o, none⟩))) (t : Take L (cl b Tb c) R) (hg : ∀ w, (isAgg T).run P w = .ok true w) (hz : ∀ w, (sizeOf T).run P w = .ok z w) (hv : slc c o z = some r) : RV1 P w0 n D E L (.cell x T) (.agg r.toArray) := fun a w he hs => by
  simp [getD_of_look he hx, asAddr, loadVar, hg, hz, run_loadCells_cl hs t hv]
theorem rv0 : RV P w0 n D E L [] (.tuple #[]) := fun fn hf a w _ _ => by simp [results, hf]
theorem rvg1 {F : ResultVar → Sem Value} {r : ResultVar} {v : Value} {w : World} (h : (F r).run P w = .ok v w) :
    (do let vs ← (#[r] : Array ResultVar).mapM F; pure (if h : vs.size = 1 then vs[0] else .tuple vs) : Sem Value).run P w = .ok v w := by
  simp [h]
theorem rvg2 {F : ResultVar → Sem Value} {r1 r2 : ResultVar} {v1 v2 : Value} {w : World} (h1 : (F r1).run P w = .ok v1 w) (h2 : (F r2).run P w = .ok v2 w) :
    (do let vs ← (#[r1, r2] : Array ResultVar).mapM F; pure (if h : vs.size = 1 then vs[0] else .tuple vs) : Sem Value).run P w = .ok (.tuple #[v1, v2]) w := by
  simp [h1, h2, Result.andThen]
theorem rvg3 {F : ResultVar → Sem Value} {r1 r2 r3 : ResultVar} {v1 v2 v3 : Value} {w : World} (h1 : (F r1).run P w = .ok v1 w) (h2 : (F r2).run P w = .ok v2 w) (h3 : (F r3).run P w = .ok v3 w) :
    (do let vs ← (#[r1, r2, r3] : Array ResultVar).mapM F; pure (if h : vs.size = 1 then vs[0] else .tuple vs) : Sem Value).run P w = .ok (.tuple #[v1, v2, v3]) w := by
  simp [h1, h2, h3, Result.andThen]
theorem rv1 {r : ResultVar} {v : Value} (h : RV1 P w0 n D E L r v) : RV P w0 n D E L [r] v := fun fn hf a w he hs => by
  unfold results; rw [hf]; exact rvg1 (h a w he hs)
theorem rv2 {r1 r2 : ResultVar} {v1 v2 : Value} (h1 : RV1 P w0 n D E L r1 v1) (h2 : RV1 P w0 n D E L r2 v2) : RV P w0 n D E L [r1, r2] (.tuple #[v1, v2]) := fun fn hf a w he hs => by
  unfold results; rw [hf]; exact rvg2 (h1 a w he hs) (h2 a w he hs)
theorem rv3 {r1 r2 r3 : ResultVar} {v1 v2 v3 : Value} (h1 : RV1 P w0 n D E L r1 v1) (h2 : RV1 P w0 n D E L r2 v2) (h3 : RV1 P w0 n D E L r3 v3) : RV P w0 n D E L [r1, r2, r3] (.tuple #[v1, v2, v3]) := fun fn hf a w he hs => by
  unfold results; rw [hf]; exact rvg3 (h1 a w he hs) (h2 a w he hs) (h3 a w he hs)
theorem j_done_ret {fn : Func} {rs : List ResultVar} {v : Value} {Rr : Ending → World → Prop} (hv : RV P w0 n [] E L rs v) (h : ∀ w, St w0 L w → Rr (.returned v) w) (hr : fn.results = rs.toArray := by rfl) : J w0 n [] E L (bodyPost P fn Rr .ret) :=
  fun a w he hs => ⟨he.defers, v, hv fn hr a w he hs, h w hs⟩
theorem j_done {fn : Func} {rs : List ResultVar} {v : Value} {Rr : Ending → World → Prop} (hv : RV P w0 n [] E L rs v) (h : ∀ w, St w0 L w → Rr (.returned v) w) (hr : fn.results = rs.toArray := by rfl) : J w0 n [] E L (bodyPost P fn Rr .normal) :=
  fun a w he hs => ⟨he.defers, v, hv fn hr a w he hs, h w hs⟩
/-- What is left over. -/
inductive Drop : List SP → List SP → Prop
  | nil {R : List SP} : Drop R R
  | cons {A : SP} {R R' : List SP} : Drop R R' → Drop (A :: R) R'
theorem Drop.sep {R R' : List SP} (d : Drop R R') {h : Hp} (H : Z.sep R h) : Z.sep R' h := by
  induction d generalizing h with
  | nil => exact H
  | cons _ ih => exact ih (sep_drop H)
theorem sep_app {As R R' : List SP} (f : ∀ h, sep R h → sep R' h) {h : Hp} (H : sep (As ++ R) h) : sep (As ++ R') h := by
  induction As generalizing h with
  | nil => exact f _ H
  | cons A As ih => exact sep_tail (fun _ h' => ih h') H
/-- The function's end. -/
theorem post_of {v : Value} {Qs : List SP} {Fr : List SP} {Post : Value → List SP → Prop} {R' : List SP} (hp : Post v Qs) (t : Takes L Qs R') (dr : Drop R' Fr) :
    ∀ w, St w0 L w → (fun e w' => ∃ v Q, e = Ending.returned v ∧ Post v Q ∧ St w0 (Q ++ Fr) w') (Ending.returned v) w :=
  fun _ hs => ⟨v, Qs, rfl, hp, hs.imp fun _ H => sep_app (fun _ h' => dr.sep h') (t.sep H)⟩
theorem j_app {A B L : List SP} {G : Act → World → Prop} (ap : App A B L) (h : J w0 n D E L G) : J w0 n D E (A ++ B) G := by rw [← ap.eq]; exact h
theorem j_init {L' R' : List SP} {E' : List (Nat × Value)} {G : Act → World → Prop} (hE : Sube E' E) (t : Takes L L' R') (h : J w0 n D E' L' G) : J w0 n D E L G := (h.takes t).env hE

theorem j_initF {As Fr R' : List SP} {E' : List (Nat × Value)} {G : Act → World → Prop} (hE : Sube E' E) (t : Takes L As R') (dr : Drop R' Fr) (h : J w0 n D E' (As ++ Fr) G) : J w0 n D E L G :=
  (h.st fun _ hs => hs.imp fun _ H => sep_app (fun _ h' => dr.sep h') (t.sep H)).env hE
theorem j_nextF {X : Type} {EE : X → List (Nat × Value)} {LL : X → List SP} {Fr R' : List SP} {μ : X → Nat} {x : X} (y : X) (hm : μ y < μ x) (hE : Sube (EE y) E) (t : Takes L (LL y) R') (dr : Drop R' Fr) :
    J w0 n D E L (fun a' w' => ∃ y, μ y < μ x ∧ EnvOK a' n D (EE y) ∧ St w0 (LL y ++ Fr) w') :=
  fun _ _ he hs => ⟨y, hm, ⟨he.size, he.defers, fun _ _ e => he.get _ _ (hE.look e)⟩, hs.imp fun _ H => sep_app (fun _ h' => dr.sep h') (t.sep H)⟩

/-- Pieces put together under one name. -/
theorem j_fold {As : List SP} {A : SP} {G : Act → World → Prop} (t : Takes L As R) (f : ∀ h, sep As h → A h) (h : J w0 n D E (A :: R) G) : J w0 n D E L G :=
  h.st fun _ H => (H.takes t).imp fun _ H' => sep_head f (sep_fold H')
theorem st_fold {As : List SP} {A : SP} {w : World} (t : Takes L As R) (f : ∀ h, sep As h → A h) (H : St w0 L w) : St w0 (A :: R) w :=
  (H.takes t).imp fun _ H' => sep_head f (sep_fold H')
/-- A piece laid open where it stands. -/
theorem j_open {α : Type} {A : SP} {F : α → List SP} {G : Act → World → Prop} (t : Take L A R) (f : ∀ h, A h → ∃ x, sep (F x) h) (h : ∀ x, J w0 n D E (F x ++ R) G) : J w0 n D E L G :=
  fun a w he hs => by
    obtain ⟨hb, hp, hh, x1, x2, d, s1, s2, ha, hl⟩ := hs.take t
    obtain ⟨x, hx⟩ := f _ ha
    exact h x a w he ⟨hb, hp, hh, sep_flat ⟨x1, x2, d, s1, s2, hx, hl⟩⟩

/-! ### what turns memory -/
theorem s_alloc {T R' : TypeId} {pos : String} {af : Array Edge} {g : Option (Nat × Bool)} {d : Nat} {z : List Value} (hz : ∀ w, (zeroValue T).run P w = .ok (.agg z.toArray) w) (k : ∀ b, J w0 n D ((d, .pointer (some ⟨b, 0, none⟩)) :: E) (cl b T z :: L) (O ro P l0.toArray l Q))
    (hd : Nat.blt d n = true := by rfl) (hw : wantE l0 E g = some true := by rfl) : J w0 n D E L (O ro P l0.toArray (⟨some d, .alloc T, R', pos, af, g⟩ :: l) Q) := fun a w he hs => by
  refine O_step rfl hw he ?_
  simp only [execOp, Instr.alloc, Sem.run_bind, hz, Result.andThen, newVar, newRow, run_newObj, Sem.run_pure, Value.cells]
  exact k _ _ _ (he.put hd _) (hs.alloc _)
theorem s_alloc1 {T R' : TypeId} {pos : String} {af : Array Edge} {g : Option (Nat × Bool)} {d : Nat} {z : Value} (hz : ∀ w, (zeroValue T).run P w = .ok z w) (h1 : z.oneCell' = true) (k : ∀ b, J w0 n D ((d, .pointer (some ⟨b, 0, none⟩)) :: E) (cl b T [z] :: L) (O ro P l0.toArray l Q))
    (hd : Nat.blt d n = true := by rfl) (hw : wantE l0 E g = some true := by rfl) : J w0 n D E L (O ro P l0.toArray (⟨some d, .alloc T, R', pos, af, g⟩ :: l) Q) := fun a w he hs => by
  refine O_step rfl hw he ?_
  simp only [execOp, Instr.alloc, Sem.run_bind, hz, Result.andThen, newVar, newRow, run_newObj, Sem.run_pure]
  have : z.cells = #[z] := by cases z <;> simp_all [Value.cells, Value.oneCell']
  rw [this]
  exact k _ _ _ (he.put hd _) (hs.alloc _)
theorem s_box {T R' : TypeId} {x : Operand} {pos : String} {af : Array Edge} {g : Option (Nat × Bool)} {d : Nat} {z : List Value} (hx : ev E x = some (.agg z.toArray)) (k : ∀ b, J w0 n D ((d, .pointer (some ⟨b, 0, none⟩)) :: E) (cl b T z :: L) (O ro P l0.toArray l Q))
    (hd : Nat.blt d n = true := by rfl) (hw : wantE l0 E g = some true := by rfl) : J w0 n D E L (O ro P l0.toArray (⟨some d, .box T x, R', pos, af, g⟩ :: l) Q) := fun a w he hs => by
  refine O_step rfl hw he ?_
  simp only [execOp, Instr.box, he.ev hx, Sem.run_bind, Result.andThen, newVar, newRow, run_newObj, Sem.run_pure, Value.cells]
  exact k _ _ _ (he.put hd _) (hs.alloc _)
theorem s_box1 {T R' : TypeId} {x : Operand} {pos : String} {af : Array Edge} {g : Option (Nat × Bool)} {d : Nat} {z : Value} (hx : ev E x = some z) (h1 : z.oneCell' = true) (k : ∀ b, J w0 n D ((d, .pointer (some ⟨b, 0, none⟩)) :: E) (cl b T [z] :: L) (O ro P l0.toArray l Q))
    (hd : Nat.blt d n = true := by rfl) (hw : wantE l0 E g = some true := by rfl) : J w0 n D E L (O ro P l0.toArray (⟨some d, .box T x, R', pos, af, g⟩ :: l) Q) := fun a w he hs => by
  refine O_step rfl hw he ?_
  simp only [execOp, Instr.box, he.ev hx, Sem.run_bind, Result.andThen, newVar, newRow, run_newObj, Sem.run_pure]
  have : z.cells = #[z] := by cases z <;> simp_all [Value.cells, Value.oneCell']
  rw [this]
  exact k _ _ _ (he.put hd _) (hs.alloc _)
theorem storeAt_run {T : TypeId} {b o : Nat} {Tb : TypeId} {v : Value} {vs c c' : List Value} {w : World} (hv : v.cells = vs.toArray) (hz : ∀ w, (sizeOf T).run P w = .ok vs.length w) (h1 : ones vs = true) (ho : ovw c o vs = some c') (u : Upd L (cl b Tb c) (cl b Tb c') L') (hs : St w0 L w) :
    ∃ w', (Instr.storeAt T (.pointer (some ⟨b, o, none⟩)) v).run P w = .ok () w' ∧ St w0 L' w' := by
  obtain ⟨w', h, h'⟩ := run_storeCells (P := P) vs L L' c c' o 0 w (by simpa using ho) h1 u hs
  refine ⟨w', ?_, h'⟩
  simp [Instr.storeAt, Instr.sureAddr, storeVar, hv, hz, h]
theorem s_storeV {T R' : TypeId} {x y : Operand} {pos : String} {af : Array Edge} {g : Option (Nat × Bool)} {b o : Nat} {Tb : TypeId} {v : Value} {vs c c' : List Value} (hx : ev E x = some (.pointer (some ⟨b, o, none⟩))) (hy : ev E y = some v) (hv : v.cells = vs.toArray) (hz : ∀ w, (sizeOf T).run P w = .ok vs.length w) (h1 : ones vs = true)
    (ho : ovw c o vs = some c') (u : Upd L (cl b Tb c) (cl b Tb c') L') (k : J w0 n D E L' (O ro P l0.toArray l Q)) (hw : wantE l0 E g = some true := by rfl) : J w0 n D E L (O ro P l0.toArray (⟨none, .store T x y, R', pos, af, g⟩ :: l) Q) := fun a w he hs => by
  refine O_step rfl hw he ?_
  obtain ⟨w', h, h'⟩ := storeAt_run (P := P) hv hz h1 ho u hs
  simp only [execOp, he.ev hx, he.ev hy, Sem.run_bind, h, Result.andThen, Sem.run_pure]
  exact k _ _ he h'
theorem s_storeA {T R' : TypeId} {x y : Operand} {pos : String} {af : Array Edge} {g : Option (Nat × Bool)} {b o : Nat} {Tb : TypeId} {vs c c' : List Value} (hx : ev E x = some (.pointer (some ⟨b, o, none⟩))) (hy : ev E y = some (.agg vs.toArray)) (hz : ∀ w, (sizeOf T).run P w = .ok vs.length w) (h1 : ones vs = true)
    (u : Upd L (cl b Tb c) (cl b Tb c') L') (ho : ovw c o vs = some c') (k : J w0 n D E L' (O ro P l0.toArray l Q)) (hw : wantE l0 E g = some true := by rfl) : J w0 n D E L (O ro P l0.toArray (⟨none, .store T x y, R', pos, af, g⟩ :: l) Q) :=
  s_storeV hx hy rfl hz h1 ho u k hw
theorem s_store1 {T R' : TypeId} {x y : Operand} {pos : String} {af : Array Edge} {g : Option (Nat × Bool)} {b o : Nat} {Tb : TypeId} {v : Value} {c c' : List Value} (hx : ev E x = some (.pointer (some ⟨b, o, none⟩))) (hy : ev E y = some v) (h1 : v.oneCell' = true) (hz : ∀ w, (sizeOf T).run P w = .ok 1 w)
    (u : Upd L (cl b Tb c) (cl b Tb c') L') (ho : ovw c o [v] = some c') (k : J w0 n D E L' (O ro P l0.toArray l Q)) (hw : wantE l0 E g = some true := by rfl) : J w0 n D E L (O ro P l0.toArray (⟨none, .store T x y, R', pos, af, g⟩ :: l) Q) := by
  have hc : v.cells = [v].toArray := by cases v <;> simp_all [Value.cells, Value.oneCell']
  have ho1 : ones [v] = true := by cases v <;> simp_all [ones, Value.oneCell']
  exact s_storeV hx hy hc (by simpa using hz) ho1 ho u k hw

/-! ### tests -/
theorem nd_true {p : Prop} [Decidable p] (h : (!decide p) = true) : ¬ p := by simpa using h
theorem nd_false {p : Prop} [Decidable p] (h : (!decide p) = false) : p := by simpa using h
theorem nb_true {b : Bool} (h : (!b) = true) : b = false := by simpa using h
theorem nb_false {b : Bool} (h : (!b) = false) : b = true := by simpa using h
theorem nn_true {p : Prop} [Decidable p] (h : (!(!decide p)) = true) : p := by simpa using h
theorem nn_false {p : Prop} [Decidable p] (h : (!(!decide p)) = false) : ¬ p := by simpa using h

/-! ### calls -/
theorem run_call {x : Operand} {args : List Operand} {tys : Array TypeId} {T : TypeId} {f : FuncId} {fs vs cs as : List Value} {a : Act} {w : World} {dst : Option Tmp} {pos : String} {af : Array Edge} {g : Option (Nat × Bool)} (he : EnvOK a n D E) (hx : ev E x = some (.func (.func f) fs.toArray cs.toArray)) (hv : evs E args = some vs) (ha : fs ++ vs ++ cs = as) (hf : IsFn P f) :
    (execOp a.eval ⟨dst, .call ⟨.value x, args.toArray, tys⟩, T, pos, af, g⟩).run P w = .ok (.enter f as.toArray) w := by
  subst ha
  have h1 : (args.toArray.map a.eval) = vs.toArray := by simp [he.evs hv]
  simp only [execOp, resolve, he.ev hx, h1, Deferred.ofValue, pure_bind, invoke]
  have := hf (fs.toArray ++ vs.toArray ++ cs.toArray) w
  simp only [List.append_toArray] at this ⊢
  exact this
/-- A call: what follows is shown of each value and each list of pieces that it may leave. -/
theorem s_call {x : Operand} {args : List Operand} {tys : Array TypeId} {T : TypeId} {f : FuncId} {fs vs cs as : List Value} {d : Nat} {pos : String} {af : Array Edge} {g : Option (Nat × Bool)} {Pre : List SP} {Post : Value → List SP → Prop}
    (hx : ev E x = some (.func (.func f) fs.toArray cs.toArray)) (hv : evs E args = some vs) (ha : fs ++ vs ++ cs = as) (hf : IsFn P f) (t : Takes L Pre R) (hc : Fn P w0 f as Pre Post)
    (k : ∀ v Qs, Post v Qs → J w0 n D ((d, v) :: E) (Qs ++ R) (O ro P l0.toArray l Q)) (hd : Nat.blt d n = true := by rfl) (hw : wantE l0 E g = some true := by rfl) :
    J w0 n D E L (O ro P l0.toArray (⟨some d, .call ⟨.value x, args.toArray, tys⟩, T, pos, af, g⟩ :: l) Q) := fun a w he hs => by
  refine O_step rfl hw he ?_
  rw [run_call he hx hv ha hf]
  refine ⟨fun h => (by cases h), callsFW.2 ((hc R w (hs.takes t)).mono ?_)⟩
  rintro e w' ⟨v, Qs, rfl, hp, hs'⟩
  exact k v Qs hp _ _ (he.put hd v) hs'
theorem s_call0 {x : Operand} {args : List Operand} {tys : Array TypeId} {T : TypeId} {f : FuncId} {fs vs cs as : List Value} {pos : String} {af : Array Edge} {g : Option (Nat × Bool)} {Pre : List SP} {Post : Value → List SP → Prop}
    (hx : ev E x = some (.func (.func f) fs.toArray cs.toArray)) (hv : evs E args = some vs) (ha : fs ++ vs ++ cs = as) (hf : IsFn P f) (t : Takes L Pre R) (hc : Fn P w0 f as Pre Post)
    (k : ∀ v Qs, Post v Qs → J w0 n D E (Qs ++ R) (O ro P l0.toArray l Q)) (hw : wantE l0 E g = some true := by rfl) :
    J w0 n D E L (O ro P l0.toArray (⟨none, .call ⟨.value x, args.toArray, tys⟩, T, pos, af, g⟩ :: l) Q) := fun a w he hs => by
  refine O_step rfl hw he ?_
  rw [run_call he hx hv ha hf]
  refine ⟨fun h => (by cases h), callsFW.2 ((hc R w (hs.takes t)).mono ?_)⟩
  rintro e w' ⟨v, Qs, rfl, hp, hs'⟩
  exact k v Qs hp _ _ he hs'
theorem s_callD {x : Operand} {args : List Operand} {tys : Array TypeId} {T : TypeId} {f : FuncId} {fs vs cs as : List Value} {d : Nat} {pos : String} {af : Array Edge} {g : Option (Nat × Bool)} {Pre Qs : List SP} {v : Value}
    (hx : ev E x = some (.func (.func f) fs.toArray cs.toArray)) (hv : evs E args = some vs) (ha : fs ++ vs ++ cs = as) (hf : IsFn P f) (t : Takes L Pre R) (ap : App Qs R L') (hc : FnD P w0 f as Pre v Qs)
    (k : J w0 n D ((d, v) :: E) L' (O ro P l0.toArray l Q)) (hd : Nat.blt d n = true := by rfl) (hw : wantE l0 E g = some true := by rfl) :
    J w0 n D E L (O ro P l0.toArray (⟨some d, .call ⟨.value x, args.toArray, tys⟩, T, pos, af, g⟩ :: l) Q) :=
  s_call hx hv ha hf t hc.fn (fun u q ⟨h1, h2⟩ => by subst h1; subst h2; rw [← ap.eq]; exact k) hd hw
theorem s_callD0 {x : Operand} {args : List Operand} {tys : Array TypeId} {T : TypeId} {f : FuncId} {fs vs cs as : List Value} {pos : String} {af : Array Edge} {g : Option (Nat × Bool)} {Pre Qs : List SP} {v : Value}
    (hx : ev E x = some (.func (.func f) fs.toArray cs.toArray)) (hv : evs E args = some vs) (ha : fs ++ vs ++ cs = as) (hf : IsFn P f) (t : Takes L Pre R) (ap : App Qs R L') (hc : FnD P w0 f as Pre v Qs)
    (k : J w0 n D E L' (O ro P l0.toArray l Q)) (hw : wantE l0 E g = some true := by rfl) :
    J w0 n D E L (O ro P l0.toArray (⟨none, .call ⟨.value x, args.toArray, tys⟩, T, pos, af, g⟩ :: l) Q) :=
  s_call0 hx hv ha hf t hc.fn (fun u q ⟨h1, h2⟩ => by subst h1; subst h2; rw [← ap.eq]; exact k) hw
end
end Go.Z
