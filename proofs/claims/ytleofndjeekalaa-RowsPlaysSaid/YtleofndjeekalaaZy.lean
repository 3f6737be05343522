/- Ranges over functions whose loop variables live in blocks of their own. -/
import Derived.Test.YtleofndjeekalaaZk
namespace Go.Z
open Go Go.RowKit
section
variable {w0 : World} {n : Nat} {D : List Deferred} {E E' : List (Nat × Value)} {L L' R As : List SP} {P : Program} {ro : Option Nat} {Q : Exit → Act → World → Prop} {l0 l : List Oper}
theorem j_assignedY {Y : Type} {Es : Y → List (Nat × Value)} {As : Y → List SP} {Fr R' : List SP} (y : Y) (hE : Sube (Es y) E) (t : Takes L (As y) R') (dr : Drop R' Fr) : J w0 n D E L (fun a w => ∃ y, EnvOK a n D (Es y) ∧ St w0 (As y ++ Fr) w) :=
  fun _ _ he hs => ⟨y, ⟨he.size, he.defers, fun _ _ e => he.get _ _ (hE.look e)⟩, hs.imp fun _ H => sep_app (fun _ h' => dr.sep h') (t.sep H)⟩
theorem j_rangeFuncY {α Y : Type} {g : Operand} {ps : List Nat} {assign body : Code} {gf : FuncId} {lb : List Value} {enc : α → List Value} {xs : List α} {Pre Post : List SP}
    (I : List α → List SP) (E1 : List α → α → Y → List (Nat × Value)) (I1 : List α → α → Y → List SP) (IS : List α → α → List SP) (stop : List α → α → Bool)
    (hg : ev E g = some (.func (.func gf) #[] lb.toArray)) (hf : IsFn P gf) (hps : ∀ x, (enc x).length = ps.length) (hpn : ∀ p ∈ ps, Nat.blt p n = true)
    (t : Takes L (Pre ++ I []) R) (hit : IterS P w0 gf lb enc xs Pre Post)
    (ha : ∀ l pre x suf Fr, pre ++ x :: suf = xs → J w0 n [] (puts ps (enc x) E) (I pre ++ Fr) (W (some l) P assign (Exit.then (fun a w => ∃ y, EnvOK a n [] (E1 pre x y) ∧ St w0 (I1 pre x y ++ Fr) w) (fun _ _ _ => False))))
    (hb : ∀ l pre x y suf Fr, pre ++ x :: suf = xs → J w0 n [] (E1 pre x y) (I1 pre x y ++ Fr) (W (some l) P body (RPS w0 (stop pre x) (I (pre ++ [x]) ++ Fr) (IS pre x ++ Fr))))
    (kN : fst stop [] xs = none → ∀ b, J w0 n (⟨.collected b, #[]⟩ :: D) E (Post ++ (I xs ++ pt b (.deferred (some [])) :: R)) (Q .normal))
    (kR : ∀ pre x, fst stop [] xs = some (pre, x) → ∀ b, J w0 n (⟨.collected b, #[]⟩ :: D) E (Post ++ (IS pre x ++ pt b (.deferred (some [])) :: R)) (Q .ret)) :
    J w0 n D E L (W none P (.rangeFunc g ps.toArray assign body) Q) := fun a w he hs => by
  refine wpIn_rangeFunc ?_
  intro fn hfn
  obtain ⟨rec, hrec⟩ : ∃ rec : LoopState → Option Code → Loop, rec = fun st pd => { state := st, pending := pd, fn, tmps := a.tmps, params := ps.toArray, assign, body, defers := w.heap.size } := ⟨_, rfl⟩
  obtain ⟨W1, hW1⟩ : ∃ W1, (w.alloc (.deferred (some []))).alloc (.loop (rec .ready none)) = W1 := ⟨_, rfl⟩
  have hs1 : St w0 (pt (w.heap.size + 1) (.loop (rec .ready none)) :: pt w.heap.size (.deferred (some [])) :: (Pre ++ I [] ++ R)) W1 := by
    have := ((hs.takes t).alloc (.deferred (some []))).alloc (.loop (rec .ready none))
    rwa [World.size_alloc, hW1] at this
  refine ⟨w.heap.size + 1, [{ target := .collected w.heap.size, args := #[] }], W1, { target := .fn (.func gf) lb.toArray, args := #[.func (.yield (w.heap.size + 1)) #[] #[]] }, W1, gf,
    #[.func (.yield (w.heap.size + 1)) #[] #[]] ++ lb.toArray, W1, ?_, ?_, fun _ _ => trivial, ?_, fun h => (by cases h), ?_⟩
  · rw [← hW1, hrec]; exact run_enterLoop_outer _ _ _ _ _
  · simp only [resolve, he.ev hg]
    simp [go_sem]
  · simp only [invoke]; exact hf _ _
  · have hY : ∀ pre x suf, pre ++ x :: suf = xs → YFnB P w0 (w.heap.size + 1) (enc x) [sep (pt (w.heap.size + 1) (.loop (rec .ready none)) :: I pre)] (!stop pre x)
        [match stop pre x with | true => sep (pt (w.heap.size + 1) (.loop (rec .done (some .ret))) :: IS pre x) | false => sep (pt (w.heap.size + 1) (.loop (rec .ready none)) :: I (pre ++ [x]))] := by
      intro pre x suf hx Fr W hW
      have hW' : St w0 (pt (w.heap.size + 1) (.loop (rec .ready none)) :: (I pre ++ Fr)) W := hW.imp fun _ H => sep_flat H
      have hl := hW'.get_pt.1
      have hy := run_yield (P := P) (args := (enc x).toArray) hl (by rw [hrec]; simp [hps])
      rw [hrec] at hy
      refine ⟨fn, _, assign, body, hy, roundIn_of_wpIn (F := FW none) trivial ?_⟩
      have he0 : EnvOK { a with defers := [] } n [] E := ⟨he.size, rfl, he.get⟩
      have henv := he0.puts (vs := enc x) hpn
      have hA := ha (w.heap.size + 1) pre x suf (pt (w.heap.size + 1) (.loop (rec .ready none)) :: Fr) hx _ W henv (hW'.imp fun _ H => sep_down H)
      have e1 : (ps.toArray.zip (enc x).toArray).foldl (fun tmps (t, a) => tmps.setIfInBounds t a) a.tmps = (ps.zip (enc x)).foldl (fun t p => t.setIfInBounds p.1 p.2) a.tmps := by
        simp
      rw [e1]
      refine wpIn_mono hA ?_
      intro e a1 w1 hq
      cases e with
      | normal =>
        obtain ⟨yy, he1, hs2⟩ := hq
        have hs3 : St w0 (pt (w.heap.size + 1) (.loop (rec .ready none)) :: (I1 pre x yy ++ Fr)) w1 := hs2.imp fun _ H => sep_up H
        refine ⟨_, run_beginRound hs3.get_pt.1 (by rw [hrec]), ?_⟩
        have hs4 : St w0 (pt (w.heap.size + 1) (.loop { rec .ready none with state := .busy }) :: (I1 pre x yy ++ Fr)) (w1.putObj (w.heap.size + 1) (.loop { rec .ready none with state := .busy })) := hs3.setB .here
        have hB := hb (w.heap.size + 1) pre x yy suf (pt (w.heap.size + 1) (.loop { rec .ready none with state := .busy }) :: Fr) hx a1 _ he1 (hs4.imp fun _ H => sep_down H)
        refine wpIn_mono hB ?_
        intro e2 a2 w2 hq2
        cases e2 with
        | normal =>
          obtain ⟨hst, hq2⟩ := hq2
          have hs5 : St w0 (pt (w.heap.size + 1) (.loop { rec .ready none with state := .busy }) :: (I (pre ++ [x]) ++ Fr)) w2 := St.imp (L := I (pre ++ [x]) ++ pt (w.heap.size + 1) (.loop { rec .ready none with state := .busy }) :: Fr) (fun _ H => sep_up H) hq2
          refine ⟨_, _, run_endRound none hs5.get_pt.1, by rw [hst]; rfl, ?_⟩
          have hs6 := hs5.setB (o' := .loop (rec .ready none)) .here
          have e2 : ({ ({ rec .ready none with state := .busy } : Loop) with state := if (none : Option Code).isNone then .ready else .done, pending := none } : Loop) = rec .ready none := by rw [hrec]; rfl
          rw [e2, hst]
          exact St.imp (fun _ H => sep_fold (As := pt (w.heap.size + 1) (.loop (rec .ready none)) :: I (pre ++ [x])) H) hs6
        | ret =>
          obtain ⟨hst, hq2⟩ := hq2
          have hs5 : St w0 (pt (w.heap.size + 1) (.loop { rec .ready none with state := .busy }) :: (IS pre x ++ Fr)) w2 := St.imp (L := IS pre x ++ pt (w.heap.size + 1) (.loop { rec .ready none with state := .busy }) :: Fr) (fun _ H => sep_up H) hq2
          refine ⟨_, _, run_endRound (some .ret) hs5.get_pt.1, by rw [hst]; rfl, ?_⟩
          have hs6 := hs5.setB (o' := .loop (rec .done (some .ret))) .here
          have e2 : ({ ({ rec .ready none with state := .busy } : Loop) with state := if (some Code.ret).isNone then .ready else .done, pending := some .ret } : Loop) = rec .done (some .ret) := by rw [hrec]; rfl
          rw [e2, hst]
          exact St.imp (fun _ H => sep_fold (As := pt (w.heap.size + 1) (.loop (rec .done (some .ret))) :: IS pre x) H) hs6
        | exit id => exact hq2.elim
        | goto t => exact hq2.elim
        | panic ch => exact hq2.elim
        | outgrown => exact hq2.elim
      | exit id => exact hq.elim
      | goto t => exact hq.elim
      | ret => exact hq.elim
      | panic ch => exact hq.elim
      | outgrown => exact hq.elim
    have hst : St w0 ((Pre ++ [sep (pt (w.heap.size + 1) (.loop (rec .ready none)) :: I [])]) ++ (pt w.heap.size (.deferred (some [])) :: R)) W1 := by
      refine hs1.imp fun _ H => ?_
      have p1 : (pt (w.heap.size + 1) (.loop (rec .ready none)) :: pt w.heap.size (.deferred (some [])) :: (Pre ++ I [] ++ R)).Perm ((pt (w.heap.size + 1) (.loop (rec .ready none)) :: I []) ++ (Pre ++ pt w.heap.size (.deferred (some [])) :: R)) := by
        refine List.Perm.cons _ ?_
        refine (List.perm_middle (l₁ := Pre ++ I [])).symm.trans ?_
        refine ((List.perm_append_comm (l₁ := Pre) (l₂ := I [])).append_right _).trans ?_
        rw [List.append_assoc]
        exact List.Perm.refl _
      have p2 : (sep (pt (w.heap.size + 1) (.loop (rec .ready none)) :: I []) :: (Pre ++ pt w.heap.size (.deferred (some [])) :: R)).Perm ((Pre ++ [sep (pt (w.heap.size + 1) (.loop (rec .ready none)) :: I [])]) ++ (pt w.heap.size (.deferred (some [])) :: R)) := by
        refine (List.perm_middle (l₁ := Pre)).symm.trans ?_
        simp
      exact sep_perm p2 (sep_fold (sep_perm p1 H))
    have hc := hit (w.heap.size + 1) (fun pre => sep (pt (w.heap.size + 1) (.loop (rec .ready none)) :: I pre)) (fun pre x => sep (pt (w.heap.size + 1) (.loop (rec .done (some .ret))) :: IS pre x)) stop hY (pt w.heap.size (.deferred (some [])) :: R) W1 hst
    have hc' := (callsFW (ro := none) (n := 0)).2 hc
    have e2 : #[Value.func (.yield (w.heap.size + 1)) #[] #[]] ++ lb.toArray = (Value.func (.yield (w.heap.size + 1)) #[] #[] :: lb).toArray := by simp
    rw [e2]
    refine hc'.mono ?_
    rintro e w' ⟨v, Qs, rfl, hQ, hs'⟩
    subst hQ
    cases hfs : fst stop [] xs with
    | none =>
      rw [finS_end hfs] at hs'
      have hs2 : St w0 (pt (w.heap.size + 1) (.loop (rec .ready none)) :: (I xs ++ (Post ++ pt w.heap.size (.deferred (some [])) :: R))) w' := by
        refine hs'.imp fun _ H => ?_
        refine sep_flat (As := pt (w.heap.size + 1) (.loop (rec .ready none)) :: I xs) (sep_perm ?_ H)
        rw [List.append_assoc]
        exact List.perm_middle
      have hpn' : (rec .ready none).pending = none := by rw [hrec]
      refine ⟨(rec .ready none).pending, _, run_endLoop (P := P) hs2.get_pt.1 (by rw [hrec]; simp), ?_⟩
      have hs3 := (hs2.setB (o' := .loop { rec .ready none with state := .exhausted }) .here).tail
      have := kN hfs w.heap.size { a with defers := [{ target := .collected w.heap.size, args := #[] }] ++ a.defers } _ ⟨he.size, by simp [he.defers], he.get⟩ (hs3.imp fun _ H => sep_perm (List.perm_append_comm_assoc _ _ _) H)
      split
      · exact this
      · rename_i c hc; rw [hpn'] at hc; cases hc
    | some p =>
      obtain ⟨pre, x⟩ := p
      rw [finS_stop hfs] at hs'
      have hs2 : St w0 (pt (w.heap.size + 1) (.loop (rec .done (some .ret))) :: (IS pre x ++ (Post ++ pt w.heap.size (.deferred (some [])) :: R))) w' := by
        refine hs'.imp fun _ H => ?_
        refine sep_flat (As := pt (w.heap.size + 1) (.loop (rec .done (some .ret))) :: IS pre x) (sep_perm ?_ H)
        rw [List.append_assoc]
        exact List.perm_middle
      have hpn' : (rec .done (some .ret)).pending = some .ret := by rw [hrec]
      refine ⟨(rec .done (some .ret)).pending, _, run_endLoop (P := P) hs2.get_pt.1 (by rw [hrec]; simp), ?_⟩
      have hs3 := (hs2.setB (o' := .loop { rec .done (some .ret) with state := .exhausted }) .here).tail
      have := kR pre x hfs w.heap.size { a with defers := [{ target := .collected w.heap.size, args := #[] }] ++ a.defers } _ ⟨he.size, by simp [he.defers], he.get⟩ (hs3.imp fun _ H => sep_perm (List.perm_append_comm_assoc _ _ _) H)
      split
      · rename_i hc; rw [hpn'] at hc; cases hc
      · rename_i c hc; rw [hpn'] at hc; cases hc; exact wpIn_ret this
end
end Go.Z
