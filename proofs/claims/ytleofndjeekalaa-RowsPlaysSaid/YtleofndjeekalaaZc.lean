/- Ranges over functions whose body may leave the loop by a return. -/
import Derived.Test.YtleofndjeekalaaZb
namespace Go.Z
open Go Go.RowKit

/-- A call of yield at loop l: it hands back b. -/
def YFnB (P : Program) (w0 : World) (l : Nat) (args : List Value) (Pre : List SP) (b : Bool) (Q : List SP) : Prop :=
  ∀ Fr W, St w0 (Pre ++ Fr) W → YieldAt (FW none) 0 P l args.toArray W (fun e W' => e = .returned (.bool b) ∧ St w0 (Q ++ Fr) W')
/-- Where a walk stops first. -/
def fst {α : Type} (stop : List α → α → Bool) : List α → List α → Option (List α × α)
  | _, [] => none
  | pre, x :: xs => match stop pre x with
    | true => some (pre, x)
    | false => fst stop (pre ++ [x]) xs
def finS {α : Type} (A : List α → SP) (B : List α → α → SP) (stop : List α → α → Bool) (xs : List α) : SP := match fst stop [] xs with
  | none => A xs
  | some (pre, x) => B pre x
/-- An iterator that hands xs to its yield, one by one, until that says false. -/
def IterS {α : Type} (P : Program) (w0 : World) (gf : FuncId) (lb : List Value) (enc : α → List Value) (xs : List α) (Pre Post : List SP) : Prop :=
  ∀ (l : Nat) (A : List α → SP) (B : List α → α → SP) (stop : List α → α → Bool),
    (∀ pre x suf, pre ++ x :: suf = xs → YFnB P w0 l (enc x) [A pre] (!stop pre x) [match stop pre x with | true => B pre x | false => A (pre ++ [x])]) →
    Fn P w0 gf (.func (.yield l) #[] #[] :: lb) (Pre ++ [A []]) (fun _ Q => Q = Post ++ [finS A B stop xs])
theorem fst_none {α : Type} {xs : List α} : ∀ {pre : List α}, fst (fun _ _ => false) pre xs = none := by
  induction xs with
  | nil => intro pre; rfl
  | cons x xs ih => intro pre; simp only [fst]; exact ih
theorem IterS.iter {α : Type} {P : Program} {w0 : World} {gf : FuncId} {lb : List Value} {enc : α → List Value} {xs : List α} {Pre Post : List SP} (h : IterS P w0 gf lb enc xs Pre Post) : Iter P w0 gf lb enc xs Pre Post :=
  fun l A hY => (h l A (fun _ _ => A []) (fun _ _ => false) (fun pre x suf e => hY pre x suf e)).mono fun v Q e => by
    rw [e]; simp only [finS, fst_none]

section
variable {α : Type} {stop : List α → α → Bool} {xs : List α} {A : List α → SP} {B : List α → α → SP}
theorem fst_stop {pre suf : List α} {x : α} (h : fst stop [] xs = fst stop pre (x :: suf)) (hs : stop pre x = true) : fst stop [] xs = some (pre, x) := by
  rw [h]; simp only [fst, hs]
theorem fst_go {pre suf : List α} {x : α} (h : fst stop [] xs = fst stop pre (x :: suf)) (hs : stop pre x = false) : fst stop [] xs = fst stop (pre ++ [x]) suf := by
  rw [h]; simp only [fst, hs]
theorem fst_end {pre : List α} (h : fst stop [] xs = fst stop pre []) : fst stop [] xs = none := by rw [h]; rfl
theorem finS_stop {pre : List α} {x : α} (h : fst stop [] xs = some (pre, x)) : finS A B stop xs = B pre x := by simp only [finS, h]
theorem finS_end (h : fst stop [] xs = none) : finS A B stop xs = A xs := by simp only [finS, h]
theorem fst_pre : ∀ {suf pre p : List α} {x : α}, fst stop pre suf = some (p, x) → ∃ s, pre ++ suf = p ++ x :: s ∧ stop p x = true := by
  intro suf
  induction suf with
  | nil => intro pre p x h; cases h
  | cons y suf ih =>
    intro pre p x h
    simp only [fst] at h
    cases hs : stop pre y with
    | true => rw [hs] at h; obtain ⟨rfl, rfl⟩ := Prod.mk.inj (Option.some.inj h); exact ⟨suf, rfl, hs⟩
    | false => rw [hs] at h; obtain ⟨s, e, hh⟩ := ih h; exact ⟨s, by rw [← e]; simp, hh⟩
/-- A stop that counts. -/
theorem fst_len {m : Nat} : ∀ {suf pre : List α}, fst (fun p _ => Nat.beq (p.length + 1) m) pre suf = if pre.length < m ∧ m ≤ pre.length + suf.length then (suf[m - pre.length - 1]?).map (fun x => (pre ++ suf.take (m - pre.length - 1), x)) else none := by
  intro suf
  induction suf with
  | nil => intro pre; simp [fst]
  | cons y suf ih =>
    intro pre
    simp only [fst]
    cases hb : Nat.beq (pre.length + 1) m with
    | true =>
      have := Nat.eq_of_beq_eq_true hb
      subst this
      simp
    | false =>
      have hne : pre.length + 1 ≠ m := fun e => by rw [e, Nat.beq_refl] at hb; cases hb
      simp only [ih, List.length_append, List.length_cons, List.length_nil]
      by_cases h : pre.length + 1 < m ∧ m ≤ pre.length + (suf.length + 1)
      · rw [if_pos (by omega), if_pos (by omega)]
        have e : m - pre.length - 1 = (m - (pre.length + 1) - 1) + 1 := by omega
        rw [e]
        simp
      · rw [if_neg (by omega), if_neg (by omega)]
end

section
variable {w0 : World} {n : Nat} {D : List Deferred} {E E' : List (Nat × Value)} {L L' R As : List SP} {P : Program} {ro : Option Nat} {Q : Exit → Act → World → Prop} {l0 l : List Oper}
theorem s_yieldS {x : Operand} {args : List Operand} {tys : Array TypeId} {T : TypeId} {l : Nat} {vs : List Value} {d : Nat} {pos : String} {af : Array Edge} {g : Option (Nat × Bool)} {Pre : List SP} {S1 S2 : SP} {b : Bool} {lo : List Oper}
    (hx : ev E x = some (.func (.yield l) #[] #[])) (hv : evs E args = some vs) (t : Takes L Pre R) (hy : YFnB P w0 l vs Pre (!b) [match b with | true => S1 | false => S2])
    (k1 : b = true → J w0 n D ((d, .bool false) :: E) (S1 :: R) (O ro P l0.toArray lo Q)) (k2 : b = false → J w0 n D ((d, .bool true) :: E) (S2 :: R) (O ro P l0.toArray lo Q)) (hd : Nat.blt d n = true := by rfl) (hw : wantE l0 E g = some true := by rfl) :
    J w0 n D E L (O ro P l0.toArray (⟨some d, .call ⟨.value x, args.toArray, tys⟩, T, pos, af, g⟩ :: lo) Q) := fun a w he hs => by
  refine O_step rfl hw he ?_
  obtain ⟨fn, tmps, assign, body, hr, hR⟩ := hy R w (hs.takes t)
  rw [run_yield_call he hx hv hr]
  refine ⟨fun h => (by cases h), RoundIn.mono (show RoundIn (FW ro) 0 P l fn tmps assign body w _ from hR) ?_⟩
  rintro e w' ⟨rfl, hs'⟩
  cases b with
  | true => exact k1 rfl _ _ (he.put hd _) hs'
  | false => exact k2 rfl _ _ (he.put hd _) hs'

/-- What a round's body must come to. -/
def RPS (w0 : World) (stop : Bool) (L LS : List SP) : Exit → Act → World → Prop
  | .normal, _, w => stop = false ∧ St w0 L w
  | .ret, _, w => stop = true ∧ St w0 LS w
  | _, _, _ => False
theorem j_rpN {As Fr R' LS : List SP} {stop : Bool} (hst : stop = false) (t : Takes L As R') (dr : Drop R' Fr) : J w0 n D E L (RPS w0 stop (As ++ Fr) LS .normal) := fun _ _ _ hs => ⟨hst, hs.imp fun _ H => sep_app (fun _ h' => dr.sep h') (t.sep H)⟩
theorem j_rpR {As Fr R' LN : List SP} {stop : Bool} (hst : stop = true) (t : Takes L As R') (dr : Drop R' Fr) : J w0 n D E L (RPS w0 stop LN (As ++ Fr) .ret) := fun _ _ _ hs => ⟨hst, hs.imp fun _ H => sep_app (fun _ h' => dr.sep h') (t.sep H)⟩

theorem j_rangeFuncS {α : Type} {g : Operand} {ps : List Nat} {assign body : Code} {gf : FuncId} {lb : List Value} {enc : α → List Value} {xs : List α} {Pre Post : List SP}
    (I : List α → List SP) (E1 : List α → α → List (Nat × Value)) (I1 IS : List α → α → List SP) (stop : List α → α → Bool)
    (hg : ev E g = some (.func (.func gf) #[] lb.toArray)) (hf : IsFn P gf) (hps : ∀ x, (enc x).length = ps.length) (hpn : ∀ p ∈ ps, Nat.blt p n = true)
    (t : Takes L (Pre ++ I []) R) (hit : IterS P w0 gf lb enc xs Pre Post)
    (ha : ∀ l pre x suf Fr, pre ++ x :: suf = xs → J w0 n [] (puts ps (enc x) E) (I pre ++ Fr) (W (some l) P assign (Exit.then (fun a w => EnvOK a n [] (E1 pre x) ∧ St w0 (I1 pre x ++ Fr) w) (fun _ _ _ => False))))
    (hb : ∀ l pre x suf Fr, pre ++ x :: suf = xs → J w0 n [] (E1 pre x) (I1 pre x ++ Fr) (W (some l) P body (RPS w0 (stop pre x) (I (pre ++ [x]) ++ Fr) (IS pre x ++ Fr))))
    (kN : fst stop [] xs = none → ∀ b, J w0 n (⟨.collected b, #[]⟩ :: D) E (Post ++ (I xs ++ pt b (.deferred (some [])) :: R)) (Q .normal))
    (kR : ∀ pre x, fst stop [] xs = some (pre, x) → ∀ b, J w0 n (⟨.collected b, #[]⟩ :: D) E (Post ++ (IS pre x ++ pt b (.deferred (some [])) :: R)) (Q .ret)) :
    J w0 n D E L (W none P (.rangeFunc g ps.toArray assign body) Q) := fun a w he hs => by
  refine wpIn_rangeFunc ?_
  intro fn hfn
  obtain ⟨rec, hrec⟩ : ∃ rec : LoopState → Option Code → Loop, rec = fun st pd => { state := st, pending := pd, fn, tmps := a.tmps, params := ps.toArray, assign, body, defers := w.heap.size } := ⟨_, rfl⟩
  obtain ⟨W1, hW1⟩ : ∃ W1, (w.alloc (.deferred (some []))).alloc (.loop (rec .ready none)) = W1 := ⟨_, rfl⟩
  have hs1 : St w0 (pt (w.heap.size + 1) (.loop (rec .ready none)) :: pt w.heap.size (.deferred (some [])) :: (Pre ++ I [] ++ R)) W1 := by
    have := ((hs.takes t).alloc (.deferred (some []))).alloc (.loop (rec .ready none))
    rwa [World.size_alloc, hW1] at this
  refine ⟨w.heap.size + 1, [{ target := .collected w.heap.size, args := #[] }], W1, { target := .fn (.func gf) lb.toArray, args := #[.func (.yield (w.heap.size + 1)) #[] #[]] }, W1, gf,
    #[.func (.yield (w.heap.size + 1)) #[] #[]] ++ lb.toArray, W1, ?_, ?_, fun _ _ => trivial, ?_, fun h => (by cases h), ?_⟩
  · rw [← hW1, hrec]; exact run_enterLoop_outer _ _ _ _ _
  · simp only [resolve, he.ev hg]
    simp [go_sem]
  · simp only [invoke]; exact hf _ _
  · have hY : ∀ pre x suf, pre ++ x :: suf = xs → YFnB P w0 (w.heap.size + 1) (enc x) [sep (pt (w.heap.size + 1) (.loop (rec .ready none)) :: I pre)] (!stop pre x)
        [match stop pre x with | true => sep (pt (w.heap.size + 1) (.loop (rec .done (some .ret))) :: IS pre x) | false => sep (pt (w.heap.size + 1) (.loop (rec .ready none)) :: I (pre ++ [x]))] := by
      intro pre x suf hx Fr W hW
      have hW' : St w0 (pt (w.heap.size + 1) (.loop (rec .ready none)) :: (I pre ++ Fr)) W := hW.imp fun _ H => sep_flat H
      have hl := hW'.get_pt.1
      have hy := run_yield (P := P) (args := (enc x).toArray) hl (by rw [hrec]; simp [hps])
      rw [hrec] at hy
      refine ⟨fn, _, assign, body, hy, roundIn_of_wpIn (F := FW none) trivial ?_⟩
      have he0 : EnvOK { a with defers := [] } n [] E := ⟨he.size, rfl, he.get⟩
      have henv := he0.puts (vs := enc x) hpn
      have hA := ha (w.heap.size + 1) pre x suf (pt (w.heap.size + 1) (.loop (rec .ready none)) :: Fr) hx _ W henv (hW'.imp fun _ H => sep_down H)
      have e1 : (ps.toArray.zip (enc x).toArray).foldl (fun tmps (t, a) => tmps.setIfInBounds t a) a.tmps = (ps.zip (enc x)).foldl (fun t p => t.setIfInBounds p.1 p.2) a.tmps := by
        simp
      rw [e1]
      refine wpIn_mono hA ?_
      intro e a1 w1 hq
      cases e with
      | normal =>
        obtain ⟨he1, hs2⟩ := hq
        have hs3 : St w0 (pt (w.heap.size + 1) (.loop (rec .ready none)) :: (I1 pre x ++ Fr)) w1 := hs2.imp fun _ H => sep_up H
        refine ⟨_, run_beginRound hs3.get_pt.1 (by rw [hrec]), ?_⟩
        have hs4 : St w0 (pt (w.heap.size + 1) (.loop { rec .ready none with state := .busy }) :: (I1 pre x ++ Fr)) (w1.putObj (w.heap.size + 1) (.loop { rec .ready none with state := .busy })) := hs3.setB .here
        have hB := hb (w.heap.size + 1) pre x suf (pt (w.heap.size + 1) (.loop { rec .ready none with state := .busy }) :: Fr) hx a1 _ he1 (hs4.imp fun _ H => sep_down H)
        refine wpIn_mono hB ?_
        intro e2 a2 w2 hq2
        cases e2 with
        | normal =>
          obtain ⟨hst, hq2⟩ := hq2
          have hs5 : St w0 (pt (w.heap.size + 1) (.loop { rec .ready none with state := .busy }) :: (I (pre ++ [x]) ++ Fr)) w2 := St.imp (L := I (pre ++ [x]) ++ pt (w.heap.size + 1) (.loop { rec .ready none with state := .busy }) :: Fr) (fun _ H => sep_up H) hq2
          refine ⟨_, _, run_endRound none hs5.get_pt.1, by rw [hst]; rfl, ?_⟩
          have hs6 := hs5.setB (o' := .loop (rec .ready none)) .here
          have e2 : ({ ({ rec .ready none with state := .busy } : Loop) with state := if (none : Option Code).isNone then .ready else .done, pending := none } : Loop) = rec .ready none := by rw [hrec]; rfl
          rw [e2, hst]
          exact St.imp (fun _ H => sep_fold (As := pt (w.heap.size + 1) (.loop (rec .ready none)) :: I (pre ++ [x])) H) hs6
        | ret =>
          obtain ⟨hst, hq2⟩ := hq2
          have hs5 : St w0 (pt (w.heap.size + 1) (.loop { rec .ready none with state := .busy }) :: (IS pre x ++ Fr)) w2 := St.imp (L := IS pre x ++ pt (w.heap.size + 1) (.loop { rec .ready none with state := .busy }) :: Fr) (fun _ H => sep_up H) hq2
          refine ⟨_, _, run_endRound (some .ret) hs5.get_pt.1, by rw [hst]; rfl, ?_⟩
          have hs6 := hs5.setB (o' := .loop (rec .done (some .ret))) .here
          have e2 : ({ ({ rec .ready none with state := .busy } : Loop) with state := if (some Code.ret).isNone then .ready else .done, pending := some .ret } : Loop) = rec .done (some .ret) := by rw [hrec]; rfl
          rw [e2, hst]
          exact St.imp (fun _ H => sep_fold (As := pt (w.heap.size + 1) (.loop (rec .done (some .ret))) :: IS pre x) H) hs6
        | exit id => exact hq2.elim
        | goto t => exact hq2.elim
        | panic ch => exact hq2.elim
        | outgrown => exact hq2.elim
      | exit id => exact hq.elim
      | goto t => exact hq.elim
      | ret => exact hq.elim
      | panic ch => exact hq.elim
      | outgrown => exact hq.elim
    have hst : St w0 ((Pre ++ [sep (pt (w.heap.size + 1) (.loop (rec .ready none)) :: I [])]) ++ (pt w.heap.size (.deferred (some [])) :: R)) W1 := by
      refine hs1.imp fun _ H => ?_
      have p1 : (pt (w.heap.size + 1) (.loop (rec .ready none)) :: pt w.heap.size (.deferred (some [])) :: (Pre ++ I [] ++ R)).Perm ((pt (w.heap.size + 1) (.loop (rec .ready none)) :: I []) ++ (Pre ++ pt w.heap.size (.deferred (some [])) :: R)) := by
        refine List.Perm.cons _ ?_
        refine (List.perm_middle (l₁ := Pre ++ I [])).symm.trans ?_
        refine ((List.perm_append_comm (l₁ := Pre) (l₂ := I [])).append_right _).trans ?_
        rw [List.append_assoc]
        exact List.Perm.refl _
      have p2 : (sep (pt (w.heap.size + 1) (.loop (rec .ready none)) :: I []) :: (Pre ++ pt w.heap.size (.deferred (some [])) :: R)).Perm ((Pre ++ [sep (pt (w.heap.size + 1) (.loop (rec .ready none)) :: I [])]) ++ (pt w.heap.size (.deferred (some [])) :: R)) := by
        refine (List.perm_middle (l₁ := Pre)).symm.trans ?_
        simp
      exact sep_perm p2 (sep_fold (sep_perm p1 H))
    have hc := hit (w.heap.size + 1) (fun pre => sep (pt (w.heap.size + 1) (.loop (rec .ready none)) :: I pre)) (fun pre x => sep (pt (w.heap.size + 1) (.loop (rec .done (some .ret))) :: IS pre x)) stop hY (pt w.heap.size (.deferred (some [])) :: R) W1 hst
    have hc' := (callsFW (ro := none) (n := 0)).2 hc
    have e2 : #[Value.func (.yield (w.heap.size + 1)) #[] #[]] ++ lb.toArray = (Value.func (.yield (w.heap.size + 1)) #[] #[] :: lb).toArray := by simp
    rw [e2]
    refine hc'.mono ?_
    rintro e w' ⟨v, Qs, rfl, hQ, hs'⟩
    subst hQ
    cases hfs : fst stop [] xs with
    | none =>
      rw [finS_end hfs] at hs'
      have hs2 : St w0 (pt (w.heap.size + 1) (.loop (rec .ready none)) :: (I xs ++ (Post ++ pt w.heap.size (.deferred (some [])) :: R))) w' := by
        refine hs'.imp fun _ H => ?_
        refine sep_flat (As := pt (w.heap.size + 1) (.loop (rec .ready none)) :: I xs) (sep_perm ?_ H)
        rw [List.append_assoc]
        exact List.perm_middle
      have hpn' : (rec .ready none).pending = none := by rw [hrec]
      refine ⟨(rec .ready none).pending, _, run_endLoop (P := P) hs2.get_pt.1 (by rw [hrec]; simp), ?_⟩
      have hs3 := (hs2.setB (o' := .loop { rec .ready none with state := .exhausted }) .here).tail
      have := kN hfs w.heap.size { a with defers := [{ target := .collected w.heap.size, args := #[] }] ++ a.defers } _ ⟨he.size, by simp [he.defers], he.get⟩ (hs3.imp fun _ H => sep_perm (List.perm_append_comm_assoc _ _ _) H)
      split
      · exact this
      · rename_i c hc; rw [hpn'] at hc; cases hc
    | some p =>
      obtain ⟨pre, x⟩ := p
      rw [finS_stop hfs] at hs'
      have hs2 : St w0 (pt (w.heap.size + 1) (.loop (rec .done (some .ret))) :: (IS pre x ++ (Post ++ pt w.heap.size (.deferred (some [])) :: R))) w' := by
        refine hs'.imp fun _ H => ?_
        refine sep_flat (As := pt (w.heap.size + 1) (.loop (rec .done (some .ret))) :: IS pre x) (sep_perm ?_ H)
        rw [List.append_assoc]
        exact List.perm_middle
      have hpn' : (rec .done (some .ret)).pending = some .ret := by rw [hrec]
      refine ⟨(rec .done (some .ret)).pending, _, run_endLoop (P := P) hs2.get_pt.1 (by rw [hrec]; simp), ?_⟩
      have hs3 := (hs2.setB (o' := .loop { rec .done (some .ret) with state := .exhausted }) .here).tail
      have := kR pre x hfs w.heap.size { a with defers := [{ target := .collected w.heap.size, args := #[] }] ++ a.defers } _ ⟨he.size, by simp [he.defers], he.get⟩ (hs3.imp fun _ H => sep_perm (List.perm_append_comm_assoc _ _ _) H)
      split
      · rename_i hc; rw [hpn'] at hc; cases hc
      · rename_i c hc; rw [hpn'] at hc; cases hc; exact wpIn_ret this
end
end Go.Z
