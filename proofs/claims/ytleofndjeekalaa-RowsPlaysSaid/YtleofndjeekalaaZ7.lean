/- Ranges over functions, in the words of pieces. -/
import Derived.Test.YtleofndjeekalaaZ6
import Derived.RangeFuncSeq
import Derived.RangeFuncLeaves
namespace Go.Z
open Go Go.RowKit

theorem sep_up {As R : List SP} {B : SP} {h : Hp} (H : sep (As ++ B :: R) h) : sep (B :: (As ++ R)) h := by
  induction As generalizing h with
  | nil => exact H
  | cons A As ih => exact sep_swap (sep_tail (fun _ h' => ih h') H)
theorem sep_down {As R : List SP} {B : SP} {h : Hp} (H : sep (B :: (As ++ R)) h) : sep (As ++ B :: R) h := by
  induction As generalizing h with
  | nil => exact H
  | cons A As ih => exact sep_tail (fun _ h' => ih h') (sep_swap H)
theorem sep_perm {L L' : List SP} (p : L.Perm L') : ∀ {h : Hp}, sep L h → sep L' h := by
  induction p with
  | nil => exact fun H => H
  | cons _ _ ih => exact fun H => sep_tail (fun _ h' => ih h') H
  | swap _ _ _ => exact fun H => sep_swap H
  | trans _ _ ih1 ih2 => exact fun H => ih2 (ih1 H)
theorem sep_one {A : SP} {h : Hp} (H : A h) : sep [A] h := ⟨h, fun _ => none, fun _ => .inr rfl, Sub.refl _, fun _ _ e => by simp at e, H, trivial⟩
theorem setB_put (w : World) (b : Nat) (o : Obj) : w.putObj b o = { w with heap := w.heap.setIfInBounds b o } := rfl

/-- A call of yield at loop l: it hands back true. -/
def YFn (P : Program) (w0 : World) (l : Nat) (args : List Value) (Pre Q : List SP) : Prop :=
  ∀ Fr W, St w0 (Pre ++ Fr) W → YieldAt (FW none) 0 P l args.toArray W (fun e W' => e = .returned (.bool true) ∧ St w0 (Q ++ Fr) W')
/-- An iterator that hands xs to its yield, one by one. -/
def Iter {α : Type} (P : Program) (w0 : World) (gf : FuncId) (lb : List Value) (enc : α → List Value) (xs : List α) (Pre Post : List SP) : Prop :=
  ∀ (l : Nat) (A : List α → SP), (∀ pre x suf, pre ++ x :: suf = xs → YFn P w0 l (enc x) [A pre] [A (pre ++ [x])]) →
    Fn P w0 gf (.func (.yield l) #[] #[] :: lb) (Pre ++ [A []]) (fun _ Q => Q = Post ++ [A xs])

def puts : List Nat → List Value → List (Nat × Value) → List (Nat × Value)
  | p :: ps, v :: vs, E => puts ps vs ((p, v) :: E)
  | _, _, E => E

section
variable {w0 : World} {n : Nat} {D : List Deferred} {E E' : List (Nat × Value)} {L L' R As : List SP} {P : Program} {ro : Option Nat} {Q : Exit → Act → World → Prop} {l0 l : List Oper}

theorem EnvOK.puts {ps : List Nat} : ∀ {vs : List Value} {E : List (Nat × Value)} {a : Act} , EnvOK a n D E → (∀ p ∈ ps, Nat.blt p n = true) → EnvOK { a with tmps := (ps.zip vs).foldl (fun t p => t.setIfInBounds p.1 p.2) a.tmps } n D (Z.puts ps vs E) := by
  induction ps with
  | nil => intro vs E a h _; simpa [Z.puts] using h
  | cons p ps ih =>
    intro vs E a h hp
    cases vs with
    | nil => simpa [Z.puts] using h
    | cons v vs =>
      have := ih (vs := vs) (h.put (hp p (by simp)) v) (fun q hq => hp q (by simp [hq]))
      simpa [Z.puts, Act.put] using this

theorem run_yield_call {x : Operand} {args : List Operand} {tys : Array TypeId} {T : TypeId} {l : Nat} {vs : List Value} {a : Act} {w w' : World} {dst : Option Tmp} {pos : String} {af : Array Edge} {g : Option (Nat × Bool)} {nx : Next} (he : EnvOK a n D E) (hx : ev E x = some (.func (.yield l) #[] #[])) (hv : evs E args = some vs) (hy : (Instr.yield l vs.toArray).run P w = .ok nx w') :
    (execOp a.eval ⟨dst, .call ⟨.value x, args.toArray, tys⟩, T, pos, af, g⟩).run P w = .ok nx w' := by
  have h1 : (args.toArray.map a.eval) = vs.toArray := by simp [he.evs hv]
  simp only [execOp, resolve, he.ev hx, h1, Deferred.ofValue, pure_bind, invoke]
  simpa using hy
theorem s_yield {x : Operand} {args : List Operand} {tys : Array TypeId} {T : TypeId} {l : Nat} {vs : List Value} {d : Nat} {pos : String} {af : Array Edge} {g : Option (Nat × Bool)} {Pre Qs : List SP} {lo : List Oper}
    (hx : ev E x = some (.func (.yield l) #[] #[])) (hv : evs E args = some vs) (t : Takes L Pre R) (ap : App Qs R L') (hy : YFn P w0 l vs Pre Qs)
    (k : J w0 n D ((d, .bool true) :: E) L' (O ro P l0.toArray lo Q)) (hd : Nat.blt d n = true := by rfl) (hw : wantE l0 E g = some true := by rfl) :
    J w0 n D E L (O ro P l0.toArray (⟨some d, .call ⟨.value x, args.toArray, tys⟩, T, pos, af, g⟩ :: lo) Q) := fun a w he hs => by
  refine O_step rfl hw he ?_
  obtain ⟨fn, tmps, assign, body, hr, hR⟩ := hy R w (hs.takes t)
  rw [run_yield_call he hx hv hr]
  refine ⟨fun h => (by cases h), RoundIn.mono (show RoundIn (FW ro) 0 P l fn tmps assign body w _ from hR) ?_⟩
  rintro e w' ⟨rfl, hs'⟩
  rw [ap.eq] at k
  exact k _ _ (he.put hd _) hs'

/-- What a round's body must come to. -/
def RP (w0 : World) (L : List SP) : Exit → Act → World → Prop
  | .normal, _, w => St w0 L w
  | _, _, _ => False
theorem j_rp {As Fr R' : List SP} (t : Takes L As R') (dr : Drop R' Fr) : J w0 n D E L (RP w0 (As ++ Fr) .normal) := fun _ _ _ hs => hs.imp fun _ H => sep_app (fun _ h' => dr.sep h') (t.sep H)
theorem j_assigned {As Fr R' : List SP} (hE : Sube E' E) (t : Takes L As R') (dr : Drop R' Fr) : J w0 n D E L (fun a w => EnvOK a n D E' ∧ St w0 (As ++ Fr) w) :=
  fun _ _ he hs => ⟨⟨he.size, he.defers, fun _ _ e => he.get _ _ (hE.look e)⟩, hs.imp fun _ H => sep_app (fun _ h' => dr.sep h') (t.sep H)⟩

theorem j_app2 {A B C L1 L2 : List SP} {G : Act → World → Prop} (ap1 : App B C L1) (ap2 : App A L1 L2) (h : J w0 n D E L2 G) : J w0 n D E (A ++ (B ++ C)) G := by
  rw [← ap1.eq, ← ap2.eq]; exact h

theorem j_rangeFunc {α : Type} {g : Operand} {ps : List Nat} {assign body : Code} {gf : FuncId} {lb : List Value} {enc : α → List Value} {xs : List α} {Pre Post : List SP}
    (I : List α → List SP) (E1 : List α → α → List (Nat × Value)) (I1 : List α → α → List SP)
    (hg : ev E g = some (.func (.func gf) #[] lb.toArray)) (hf : IsFn P gf) (hps : ∀ x, (enc x).length = ps.length) (hpn : ∀ p ∈ ps, Nat.blt p n = true)
    (t : Takes L (Pre ++ I []) R) (hit : Iter P w0 gf lb enc xs Pre Post)
    (ha : ∀ l pre x suf Fr, pre ++ x :: suf = xs → J w0 n [] (puts ps (enc x) E) (I pre ++ Fr) (W (some l) P assign (Exit.then (fun a w => EnvOK a n [] (E1 pre x) ∧ St w0 (I1 pre x ++ Fr) w) (fun _ _ _ => False))))
    (hb : ∀ l pre x suf Fr, pre ++ x :: suf = xs → J w0 n [] (E1 pre x) (I1 pre x ++ Fr) (W (some l) P body (RP w0 (I (pre ++ [x]) ++ Fr))))
    (k : ∀ b, J w0 n (⟨.collected b, #[]⟩ :: D) E (Post ++ (I xs ++ pt b (.deferred (some [])) :: R)) (Q .normal)) :
    J w0 n D E L (W none P (.rangeFunc g ps.toArray assign body) Q) := fun a w he hs => by
  refine wpIn_rangeFunc ?_
  intro fn hfn
  obtain ⟨rec, hrec⟩ : ∃ rec : LoopState → Loop, rec = fun st => { state := st, pending := none, fn, tmps := a.tmps, params := ps.toArray, assign, body, defers := w.heap.size } := ⟨_, rfl⟩
  obtain ⟨W1, hW1⟩ : ∃ W1, (w.alloc (.deferred (some []))).alloc (.loop (rec .ready)) = W1 := ⟨_, rfl⟩
  have hs1 : St w0 (pt (w.heap.size + 1) (.loop (rec .ready)) :: pt w.heap.size (.deferred (some [])) :: (Pre ++ I [] ++ R)) W1 := by
    have := ((hs.takes t).alloc (.deferred (some []))).alloc (.loop (rec .ready))
    rwa [World.size_alloc, hW1] at this
  refine ⟨w.heap.size + 1, [{ target := .collected w.heap.size, args := #[] }], W1, { target := .fn (.func gf) lb.toArray, args := #[.func (.yield (w.heap.size + 1)) #[] #[]] }, W1, gf,
    #[.func (.yield (w.heap.size + 1)) #[] #[]] ++ lb.toArray, W1, ?_, ?_, fun _ _ => trivial, ?_, fun h => (by cases h), ?_⟩
  · rw [← hW1, hrec]; exact run_enterLoop_outer _ _ _ _ _
  · simp only [resolve, he.ev hg]
    simp [go_sem]
  · simp only [invoke]; exact hf _ _
  · have hY : ∀ pre x suf, pre ++ x :: suf = xs → YFn P w0 (w.heap.size + 1) (enc x) [sep (pt (w.heap.size + 1) (.loop (rec .ready)) :: I pre)] [sep (pt (w.heap.size + 1) (.loop (rec .ready)) :: I (pre ++ [x]))] := by
      intro pre x suf hx Fr W hW
      have hW' : St w0 (pt (w.heap.size + 1) (.loop (rec .ready)) :: (I pre ++ Fr)) W := hW.imp fun _ H => sep_flat H
      have hl := hW'.get_pt.1
      have hy := run_yield (P := P) (args := (enc x).toArray) hl (by rw [hrec]; simp [hps])
      rw [hrec] at hy
      refine ⟨fn, _, assign, body, hy, roundIn_of_wpIn (F := FW none) trivial ?_⟩
      have he0 : EnvOK { a with defers := [] } n [] E := ⟨he.size, rfl, he.get⟩
      have henv := he0.puts (vs := enc x) hpn
      have hA := ha (w.heap.size + 1) pre x suf (pt (w.heap.size + 1) (.loop (rec .ready)) :: Fr) hx _ W henv (hW'.imp fun _ H => sep_down H)
      have e1 : (ps.toArray.zip (enc x).toArray).foldl (fun tmps (t, a) => tmps.setIfInBounds t a) a.tmps = (ps.zip (enc x)).foldl (fun t p => t.setIfInBounds p.1 p.2) a.tmps := by
        simp
      rw [e1]
      refine wpIn_mono hA ?_
      intro e a1 w1 hq
      cases e with
      | normal =>
        obtain ⟨he1, hs2⟩ := hq
        have hs3 : St w0 (pt (w.heap.size + 1) (.loop (rec .ready)) :: (I1 pre x ++ Fr)) w1 := hs2.imp fun _ H => sep_up H
        refine ⟨_, run_beginRound hs3.get_pt.1 (by rw [hrec]), ?_⟩
        have hs4 : St w0 (pt (w.heap.size + 1) (.loop { rec .ready with state := .busy }) :: (I1 pre x ++ Fr)) (w1.putObj (w.heap.size + 1) (.loop { rec .ready with state := .busy })) := hs3.setB .here
        have hB := hb (w.heap.size + 1) pre x suf (pt (w.heap.size + 1) (.loop { rec .ready with state := .busy }) :: Fr) hx a1 _ he1 (hs4.imp fun _ H => sep_down H)
        refine wpIn_mono hB ?_
        intro e2 a2 w2 hq2
        cases e2 with
        | normal =>
          have hs5 : St w0 (pt (w.heap.size + 1) (.loop { rec .ready with state := .busy }) :: (I (pre ++ [x]) ++ Fr)) w2 := St.imp (L := I (pre ++ [x]) ++ pt (w.heap.size + 1) (.loop { rec .ready with state := .busy }) :: Fr) (fun _ H => sep_up H) hq2
          refine ⟨_, _, run_endRound none hs5.get_pt.1, rfl, ?_⟩
          have hs6 := hs5.setB (o' := .loop (rec .ready)) .here
          have e2 : ({ ({ rec .ready with state := .busy } : Loop) with state := if (none : Option Code).isNone then .ready else .done, pending := none } : Loop) = rec .ready := by rw [hrec]; rfl
          rw [e2]
          exact St.imp (fun _ H => sep_fold (As := pt (w.heap.size + 1) (.loop (rec .ready)) :: I (pre ++ [x])) H) hs6
        | exit id => exact hq2.elim
        | goto t => exact hq2.elim
        | ret => exact hq2.elim
        | panic ch => exact hq2.elim
        | outgrown => exact hq2.elim
      | exit id => exact hq.elim
      | goto t => exact hq.elim
      | ret => exact hq.elim
      | panic ch => exact hq.elim
      | outgrown => exact hq.elim
    have hst : St w0 ((Pre ++ [sep (pt (w.heap.size + 1) (.loop (rec .ready)) :: I [])]) ++ (pt w.heap.size (.deferred (some [])) :: R)) W1 := by
      refine hs1.imp fun _ H => ?_
      have p1 : (pt (w.heap.size + 1) (.loop (rec .ready)) :: pt w.heap.size (.deferred (some [])) :: (Pre ++ I [] ++ R)).Perm ((pt (w.heap.size + 1) (.loop (rec .ready)) :: I []) ++ (Pre ++ pt w.heap.size (.deferred (some [])) :: R)) := by
        refine List.Perm.cons _ ?_
        refine (List.perm_middle (l₁ := Pre ++ I [])).symm.trans ?_
        refine ((List.perm_append_comm (l₁ := Pre) (l₂ := I [])).append_right _).trans ?_
        rw [List.append_assoc]
        exact List.Perm.refl _
      have p2 : (sep (pt (w.heap.size + 1) (.loop (rec .ready)) :: I []) :: (Pre ++ pt w.heap.size (.deferred (some [])) :: R)).Perm ((Pre ++ [sep (pt (w.heap.size + 1) (.loop (rec .ready)) :: I [])]) ++ (pt w.heap.size (.deferred (some [])) :: R)) := by
        refine (List.perm_middle (l₁ := Pre)).symm.trans ?_
        simp
      exact sep_perm p2 (sep_fold (sep_perm p1 H))
    have hc := hit (w.heap.size + 1) (fun pre => sep (pt (w.heap.size + 1) (.loop (rec .ready)) :: I pre)) hY (pt w.heap.size (.deferred (some [])) :: R) W1 hst
    have hc' := (callsFW (ro := none) (n := 0)).2 hc
    have e2 : #[Value.func (.yield (w.heap.size + 1)) #[] #[]] ++ lb.toArray = (Value.func (.yield (w.heap.size + 1)) #[] #[] :: lb).toArray := by simp
    rw [e2]
    refine hc'.mono ?_
    rintro e w' ⟨v, Qs, rfl, hQ, hs'⟩
    subst hQ
    have hs2 : St w0 (pt (w.heap.size + 1) (.loop (rec .ready)) :: (I xs ++ (Post ++ pt w.heap.size (.deferred (some [])) :: R))) w' := by
      refine hs'.imp fun _ H => ?_
      refine sep_flat (As := pt (w.heap.size + 1) (.loop (rec .ready)) :: I xs) (sep_perm ?_ H)
      rw [List.append_assoc]
      exact List.perm_middle
    have hpn' : (rec .ready).pending = none := by rw [hrec]
    refine ⟨(rec .ready).pending, _, run_endLoop (P := P) hs2.get_pt.1 (by rw [hrec]; simp), ?_⟩
    have hs3 := (hs2.setB (o' := .loop { rec .ready with state := .exhausted }) .here).tail
    have := k w.heap.size { a with defers := [{ target := .collected w.heap.size, args := #[] }] ++ a.defers } _ ⟨he.size, by simp [he.defers], he.get⟩ (hs3.imp fun _ H => sep_perm (List.perm_append_comm_assoc _ _ _) H)
    split
    · exact this
    · rename_i c hc; rw [hpn'] at hc; cases hc

/-! ### a function that has ranged over a function: its end -/
theorem fn_enterM {f : FuncId} {fn : Func} {c : Code} {args : List Value} {Pre : List SP} {Post : Value → List SP → Prop} (hf : P.funcs[f]? = some fn) (hb : fn.body = some c) (hn : fn.ntmps = n) (ha : Nat.ble args.length n = true)
    (h : ∀ Fr, J w0 n [] (zipE 0 args) (Pre ++ Fr) (W none P c (bodyPostM (FW none) 0 P fn fun e w' => ∃ v Q, e = .returned v ∧ Post v Q ∧ St w0 (Q ++ Fr) w'))) : Fn P w0 f args Pre Post := fun Fr w hs => by
  refine (callsFW (ro := none) (n := 0)).1 (callsIn_of_wp_marks hf hb trivial ?_)
  rw [hn]
  exact h Fr _ _ (envOK_args (by simpa using ha)) hs
def marks (bs : List Nat) : List Deferred := bs.map fun b => ⟨.collected b, #[]⟩
/-- The marks' blocks, one for one. -/
inductive Mks : List SP → List Nat → List SP → Prop
  | nil {L : List SP} : Mks L [] L
  | cons {b : Nat} {bs : List Nat} {L L' L'' : List SP} : Take L (pt b (.deferred (some []))) L' → Mks L' bs L'' → Mks L (b :: bs) L''
theorem leaves_marks {fn : Func} {tmps : Array Value} {Rr : Ending → World → Prop} {v : Value} : ∀ {bs : List Nat} {L L' : List SP} {w : World}, Mks L bs L' → St w0 L w → (∀ w, St w0 L' w → (results fn tmps).run P w = .ok v w) → (∀ w, St w0 L' w → Rr (.returned v) w) →
    LeavesInM (FW none) 0 P fn tmps Rr (marks bs) .returning w
  | [], L, L', w, hm, hs, hv, hR => by
    cases hm
    exact ⟨v, hv w hs, hR w hs⟩
  | b :: bs, L, L', w, hm, hs, hv, hR => by
    cases hm with
    | cons t m =>
      have hs1 := hs.take t
      refine ⟨by simp, .inl ⟨b, _, rfl, run_takeDeferred hs1.get_pt.1, ?_⟩⟩
      have hs2 := (hs1.setB (o' := .deferred none) .here).tail
      exact leaves_marks m hs2 hv hR
theorem j_doneM_ret {fn : Func} {rs : List ResultVar} {v : Value} {Rr : Ending → World → Prop} {bs : List Nat} (hm : Mks L bs L') (hv : RV P w0 n (marks bs) E L' rs v) (h : ∀ w, St w0 L' w → Rr (.returned v) w) (hr : fn.results = rs.toArray := by rfl) : J w0 n (marks bs) E L (bodyPostM (FW none) 0 P fn Rr .ret) :=
  fun a w he hs => by
    show LeavesInM _ _ _ _ _ _ a.defers _ _
    rw [he.defers]
    exact leaves_marks hm hs (fun w hs' => hv fn hr a w he hs') h
theorem j_doneM {fn : Func} {rs : List ResultVar} {v : Value} {Rr : Ending → World → Prop} {bs : List Nat} (hm : Mks L bs L') (hv : RV P w0 n (marks bs) E L' rs v) (h : ∀ w, St w0 L' w → Rr (.returned v) w) (hr : fn.results = rs.toArray := by rfl) : J w0 n (marks bs) E L (bodyPostM (FW none) 0 P fn Rr .normal) :=
  fun a w he hs => by
    show LeavesInM _ _ _ _ _ _ a.defers _ _
    rw [he.defers]
    exact leaves_marks hm hs (fun w hs' => hv fn hr a w he hs') h
end
end Go.Z
