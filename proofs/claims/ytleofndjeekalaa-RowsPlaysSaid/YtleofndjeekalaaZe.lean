/- Ranges over functions whose order is not told; deletes at a map laid open; more words for statements by tokens. -/
import Derived.Test.YtleofndjeekalaaZd
set_option linter.unusedSectionVars false
set_option linter.unusedSimpArgs false
set_option linter.unusedVariables false
namespace Go.Z
open Go Go.RowKit Go.Instr

/-- An iterator that hands some row of values to its yield: each row so far is 'ok', the whole is 'fin'. -/
def IterN {α : Type} (P : Program) (w0 : World) (gf : FuncId) (lb : List Value) (enc : α → List Value) (ok fin : List α → Prop) (Pre Post : List SP) : Prop :=
  ∀ (l : Nat) (A : List α → SP), (∀ pre x, ok (pre ++ [x]) → YFn P w0 l (enc x) [A pre] [A (pre ++ [x])]) →
    Fn P w0 gf (.func (.yield l) #[] #[] :: lb) (Pre ++ [A []]) (fun _ Q => ∃ xs, fin xs ∧ Q = Post ++ [A xs])
section
variable {w0 : World} {n : Nat} {D : List Deferred} {E E' E1 : List (Nat × Value)} {L L' R As : List SP} {P : Program} {ro : Option Nat} {Q : Exit → Act → World → Prop} {l0 l : List Oper} {vals : (Nat → Value) → List Value} {toks : List Tok} {chs : List Nat}
theorem j_rangeFuncN {α : Type} {g : Operand} {ps : List Nat} {assign body : Code} {gf : FuncId} {lb : List Value} {enc : α → List Value} {ok fin : List α → Prop} {Pre Post : List SP}
    (I : List α → List SP) (E1 : List α → α → List (Nat × Value)) (I1 : List α → α → List SP)
    (hg : ev E g = some (.func (.func gf) #[] lb.toArray)) (hf : IsFn P gf) (hps : ∀ x, (enc x).length = ps.length) (hpn : ∀ p ∈ ps, Nat.blt p n = true)
    (t : Takes L (Pre ++ I []) R) (hit : IterN P w0 gf lb enc ok fin Pre Post)
    (ha : ∀ l pre x Fr, ok (pre ++ [x]) → J w0 n [] (puts ps (enc x) E) (I pre ++ Fr) (W (some l) P assign (Exit.then (fun a w => EnvOK a n [] (E1 pre x) ∧ St w0 (I1 pre x ++ Fr) w) (fun _ _ _ => False))))
    (hb : ∀ l pre x Fr, ok (pre ++ [x]) → J w0 n [] (E1 pre x) (I1 pre x ++ Fr) (W (some l) P body (RP w0 (I (pre ++ [x]) ++ Fr))))
    (k : ∀ xs, fin xs → ∀ b, J w0 n (⟨.collected b, #[]⟩ :: D) E (Post ++ (I xs ++ pt b (.deferred (some [])) :: R)) (Q .normal)) :
    J w0 n D E L (W none P (.rangeFunc g ps.toArray assign body) Q) := fun a w he hs => by
  refine wpIn_rangeFunc ?_
  intro fn hfn
  obtain ⟨rec, hrec⟩ : ∃ rec : LoopState → Loop, rec = fun st => { state := st, pending := none, fn, tmps := a.tmps, params := ps.toArray, assign, body, defers := w.heap.size } := ⟨_, rfl⟩
  obtain ⟨W1, hW1⟩ : ∃ W1, (w.alloc (.deferred (some []))).alloc (.loop (rec .ready)) = W1 := ⟨_, rfl⟩
  have hs1 : St w0 (pt (w.heap.size + 1) (.loop (rec .ready)) :: pt w.heap.size (.deferred (some [])) :: (Pre ++ I [] ++ R)) W1 := by
    have := ((hs.takes t).alloc (.deferred (some []))).alloc (.loop (rec .ready))
    rwa [World.size_alloc, hW1] at this
  refine ⟨w.heap.size + 1, [{ target := .collected w.heap.size, args := #[] }], W1, { target := .fn (.func gf) lb.toArray, args := #[.func (.yield (w.heap.size + 1)) #[] #[]] }, W1, gf,
    #[.func (.yield (w.heap.size + 1)) #[] #[]] ++ lb.toArray, W1, ?_, ?_, fun _ _ => trivial, ?_, fun h => (by cases h), ?_⟩
  · rw [← hW1, hrec]; exact run_enterLoop_outer _ _ _ _ _
  · simp only [resolve, he.ev hg]
    simp [go_sem]
  · simp only [invoke]; exact hf _ _
  · have hY : ∀ pre x, ok (pre ++ [x]) → YFn P w0 (w.heap.size + 1) (enc x) [sep (pt (w.heap.size + 1) (.loop (rec .ready)) :: I pre)] [sep (pt (w.heap.size + 1) (.loop (rec .ready)) :: I (pre ++ [x]))] := by
      intro pre x hx Fr W hW
      have hW' : St w0 (pt (w.heap.size + 1) (.loop (rec .ready)) :: (I pre ++ Fr)) W := hW.imp fun _ H => sep_flat H
      have hl := hW'.get_pt.1
      have hy := run_yield (P := P) (args := (enc x).toArray) hl (by rw [hrec]; simp [hps])
      rw [hrec] at hy
      refine ⟨fn, _, assign, body, hy, roundIn_of_wpIn (F := FW none) trivial ?_⟩
      have he0 : EnvOK { a with defers := [] } n [] E := ⟨he.size, rfl, he.get⟩
      have henv := he0.puts (vs := enc x) hpn
      have hA := ha (w.heap.size + 1) pre x (pt (w.heap.size + 1) (.loop (rec .ready)) :: Fr) hx _ W henv (hW'.imp fun _ H => sep_down H)
      have e1 : (ps.toArray.zip (enc x).toArray).foldl (fun tmps (t, a) => tmps.setIfInBounds t a) a.tmps = (ps.zip (enc x)).foldl (fun t p => t.setIfInBounds p.1 p.2) a.tmps := by
        simp
      rw [e1]
      refine wpIn_mono hA ?_
      intro e a1 w1 hq
      cases e with
      | normal =>
        obtain ⟨he1, hs2⟩ := hq
        have hs3 : St w0 (pt (w.heap.size + 1) (.loop (rec .ready)) :: (I1 pre x ++ Fr)) w1 := hs2.imp fun _ H => sep_up H
        refine ⟨_, run_beginRound hs3.get_pt.1 (by rw [hrec]), ?_⟩
        have hs4 : St w0 (pt (w.heap.size + 1) (.loop { rec .ready with state := .busy }) :: (I1 pre x ++ Fr)) (w1.putObj (w.heap.size + 1) (.loop { rec .ready with state := .busy })) := hs3.setB .here
        have hB := hb (w.heap.size + 1) pre x (pt (w.heap.size + 1) (.loop { rec .ready with state := .busy }) :: Fr) hx a1 _ he1 (hs4.imp fun _ H => sep_down H)
        refine wpIn_mono hB ?_
        intro e2 a2 w2 hq2
        cases e2 with
        | normal =>
          have hs5 : St w0 (pt (w.heap.size + 1) (.loop { rec .ready with state := .busy }) :: (I (pre ++ [x]) ++ Fr)) w2 := St.imp (L := I (pre ++ [x]) ++ pt (w.heap.size + 1) (.loop { rec .ready with state := .busy }) :: Fr) (fun _ H => sep_up H) hq2
          refine ⟨_, _, run_endRound none hs5.get_pt.1, rfl, ?_⟩
          have hs6 := hs5.setB (o' := .loop (rec .ready)) .here
          have e2 : ({ ({ rec .ready with state := .busy } : Loop) with state := if (none : Option Code).isNone then .ready else .done, pending := none } : Loop) = rec .ready := by rw [hrec]; rfl
          rw [e2]
          exact St.imp (fun _ H => sep_fold (As := pt (w.heap.size + 1) (.loop (rec .ready)) :: I (pre ++ [x])) H) hs6
        | exit id => exact hq2.elim
        | goto t => exact hq2.elim
        | ret => exact hq2.elim
        | panic ch => exact hq2.elim
        | outgrown => exact hq2.elim
      | exit id => exact hq.elim
      | goto t => exact hq.elim
      | ret => exact hq.elim
      | panic ch => exact hq.elim
      | outgrown => exact hq.elim
    have hst : St w0 ((Pre ++ [sep (pt (w.heap.size + 1) (.loop (rec .ready)) :: I [])]) ++ (pt w.heap.size (.deferred (some [])) :: R)) W1 := by
      refine hs1.imp fun _ H => ?_
      have p1 : (pt (w.heap.size + 1) (.loop (rec .ready)) :: pt w.heap.size (.deferred (some [])) :: (Pre ++ I [] ++ R)).Perm ((pt (w.heap.size + 1) (.loop (rec .ready)) :: I []) ++ (Pre ++ pt w.heap.size (.deferred (some [])) :: R)) := by
        refine List.Perm.cons _ ?_
        refine (List.perm_middle (l₁ := Pre ++ I [])).symm.trans ?_
        refine ((List.perm_append_comm (l₁ := Pre) (l₂ := I [])).append_right _).trans ?_
        rw [List.append_assoc]
        exact List.Perm.refl _
      have p2 : (sep (pt (w.heap.size + 1) (.loop (rec .ready)) :: I []) :: (Pre ++ pt w.heap.size (.deferred (some [])) :: R)).Perm ((Pre ++ [sep (pt (w.heap.size + 1) (.loop (rec .ready)) :: I [])]) ++ (pt w.heap.size (.deferred (some [])) :: R)) := by
        refine (List.perm_middle (l₁ := Pre)).symm.trans ?_
        simp
      exact sep_perm p2 (sep_fold (sep_perm p1 H))
    have hc := hit (w.heap.size + 1) (fun pre => sep (pt (w.heap.size + 1) (.loop (rec .ready)) :: I pre)) hY (pt w.heap.size (.deferred (some [])) :: R) W1 hst
    have hc' := (callsFW (ro := none) (n := 0)).2 hc
    have e2 : #[Value.func (.yield (w.heap.size + 1)) #[] #[]] ++ lb.toArray = (Value.func (.yield (w.heap.size + 1)) #[] #[] :: lb).toArray := by simp
    rw [e2]
    refine hc'.mono ?_
    rintro e w' ⟨v, Qs, rfl, ⟨xs, hxs, hQ⟩, hs'⟩
    subst hQ
    have hs2 : St w0 (pt (w.heap.size + 1) (.loop (rec .ready)) :: (I xs ++ (Post ++ pt w.heap.size (.deferred (some [])) :: R))) w' := by
      refine hs'.imp fun _ H => ?_
      refine sep_flat (As := pt (w.heap.size + 1) (.loop (rec .ready)) :: I xs) (sep_perm ?_ H)
      rw [List.append_assoc]
      exact List.perm_middle
    have hpn' : (rec .ready).pending = none := by rw [hrec]
    refine ⟨(rec .ready).pending, _, run_endLoop (P := P) hs2.get_pt.1 (by rw [hrec]; simp), ?_⟩
    have hs3 := (hs2.setB (o' := .loop { rec .ready with state := .exhausted }) .here).tail
    have := k xs hxs w.heap.size { a with defers := [{ target := .collected w.heap.size, args := #[] }] ++ a.defers } _ ⟨he.size, by simp [he.defers], he.get⟩ (hs3.imp fun _ H => sep_perm (List.perm_append_comm_assoc _ _ _) H)
    split
    · exact this
    · rename_i c hc; rw [hpn'] at hc; cases hc


/-! ### tokens -/
theorem tops_nil {i : Nat} : TOps ro P w0 n D l0 E vals toks chs i [] := trivial
theorem tops_cons {i : Nat} {o : Oper} {os : List Oper} (h : TOp ro P w0 n D l0 E vals toks chs i o) (t : TOps ro P w0 n D l0 E vals toks chs (i + 1) os) : TOps ro P w0 n D l0 E vals toks chs i (o :: os) := ⟨h, t⟩
theorem top_c {i : Nat} {o : Oper} (hc : memB chs i = true) (h : ∀ ρ R, HN ro P w0 n D l0 (heads l0 (vals ρ) E) (pcs (filt (fun t => isO t.dst i) toks) ρ ++ R) (fun v w => (vals (upd ρ i v))[i]? = some v ∧ St w0 (pcs (filt (fun t => isO t.src i) toks) (upd ρ i v) ++ R) w) o) : TOp ro P w0 n D l0 E vals toks chs i o := by
  unfold TOp; rw [hc]; exact h
theorem top_q {i : Nat} {o : Oper} (v : (Nat → Value) → Value) (hc : memB chs i = false) (hv : ∀ ρ, (vals ρ)[i]? = some (v ρ)) (h : ∀ ρ R, HQ P w0 n D l0 (heads l0 (vals ρ) E) (pcs (filt (fun t => memB t.rd i) toks) ρ ++ R) o (v ρ)) : TOp ro P w0 n D l0 E vals toks chs i o := by
  unfold TOp; rw [hc]; intro ρ R; rw [hv]; exact h ρ R
theorem hn_of0 {o : Oper} {F : Value → World → Prop} (hdst : o.dst = none) (hw : wantE l0 E1 o.guard = some true) (hnd : isDefer o.op = false)
    (h : J w0 n D E1 L (O ro P l0.toArray [o] (fun e a w => e = .normal ∧ a.defers = D ∧ ∀ v, F v w))) : HN ro P w0 n D l0 E1 L F o := ⟨hw, fun a w he hs => by
  have h1 := h a w he hs
  simp only [O, wpListIn, wantE_spec he hw, if_true] at h1
  have h2 := h1.2
  rw [Oper.semAt_eq _ _ _ (not_defer hnd)] at h2
  revert h2
  generalize (execOp a.eval o).run P w = r
  intro h2
  cases r with
  | ok x w' =>
    cases x with
    | value u => exact h2.2.2 u
    | skip => exact h2.2.2 undef
    | enter f args =>
      refine (callsFW.1 h2.2).mono ?_
      intro e w'' h3
      cases e with
      | returned v => exact ⟨v, rfl, h3.2.2 v⟩
      | panicked c => cases h3.1
      | outgrown => obtain ⟨a1, w1, h4, _⟩ := h3; cases h4
    | row row args =>
      refine RowsIn.mono h2.2 ?_
      intro v w'' h3
      exact h3.2.2 v
    | round l f tmps as body =>
      refine RoundIn.mono h2.2 ?_
      intro e w'' h3
      cases e with
      | returned v => exact ⟨v, rfl, h3.2.2 v⟩
      | panicked c => cases h3.1
      | outgrown => obtain ⟨a1, w1, h4, _⟩ := h3; cases h4
    | defer c =>
      have h3 : ({ a with defers := c :: a.defers }.put o.dst undef).defers = D := h2.2.1
      rw [hdst] at h3
      simp only [Act.put, he.defers] at h3
      have := congrArg List.length h3
      simp at this
    | _ => exact h2.elim
  | halt x w' =>
    cases x with
    | panic v => cases h2.1
    | _ => exact h2.elim⟩
theorem hn_end0 {F : Value → World → Prop} (h : ∀ v w, St w0 L w → F v w) : J w0 n D E L (fun a w => Exit.normal = .normal ∧ a.defers = D ∧ ∀ v, F v w) :=
  fun _ w he hs => ⟨rfl, he.defers, fun v => h v w hs⟩
theorem st_td {As Fr R' : List SP} (t : Takes L As R') (dr : Drop R' Fr) : ∀ w, St w0 L w → St w0 (As ++ Fr) w := fun _ hs => hs.imp fun _ H => sep_app (fun _ h' => dr.sep h') (t.sep H)
theorem j_nextG {X : Type} {EE : X → List (Nat × Value)} {LL : X → List SP} {Fr : List SP} {μ : X → Nat} {x : X} (y : X) (hm : μ y < μ x) (hE : Sube (EE y) E) (h : ∀ w, St w0 L w → St w0 (LL y ++ Fr) w) :
    J w0 n D E L (fun a' w' => ∃ y, μ y < μ x ∧ EnvOK a' n D (EE y) ∧ St w0 (LL y ++ Fr) w') :=
  fun _ _ he hs => ⟨y, hm, ⟨he.size, he.defers, fun _ _ e => he.get _ _ (hE.look e)⟩, h _ hs⟩
theorem J.own_one {T : TypeId} {k m : Nat} {v : Value} {c : List Value} {G : Act → World → Prop} (t : Take L (Own T k v m c) R) (h : v.oneCell' = true → J w0 n D E L G) : J w0 n D E L G := fun a w he hs => h (Z.own_one (hs.take t)) a w he hs
theorem pv_indexS {x y : Operand} {T R' : TypeId} {s : ByteArray} {k : IntKind} {i : Int} {c : UInt8} (hx : ev E x = some (.string s)) (hy : ev E y = some (.int k i)) (h : 0 ≤ i) (hc : s[i.toNat]? = some c) (hT : P.underlying T = some .string) : PV P w0 n D E L (.index T x y) R' (.int .u8 c.toNat) := fun act w he _ _ _ _ _ => by
  simp only [execOp, he.ev hx, he.ev hy]
  simp [Instr.index, asIntOf, underlying, hT, h, hc]
theorem s_indexS {x y : Operand} {T R' : TypeId} {s : ByteArray} {k : IntKind} {i : Int} {d : Nat} {pos : String} {af : Array Edge} {g : Option (Nat × Bool)} (hx : ev E x = some (.string s)) (hy : ev E y = some (.int k i)) (h : 0 ≤ i) (hT : P.underlying T = some .string) (hsz : i.toNat < s.size)
    (kk : ∀ c : UInt8, J w0 n D ((d, .int .u8 c.toNat) :: E) L (O ro P l0.toArray l Q)) (hd : Nat.blt d n = true := by rfl) (hw : wantE l0 E g = some true := by rfl) :
    J w0 n D E L (O ro P l0.toArray (⟨some d, .index T x y, R', pos, af, g⟩ :: l) Q) :=
  s_val (pv_indexS (c := s[i.toNat]'hsz) hx hy h (getElem?_pos s i.toNat hsz) hT) (kk _) rfl hd hw
/-- A fact laid beside a piece. -/
theorem j_wh_mk {p : Prop} {A : SP} {G : Act → World → Prop} (t : Take L A R) (hp : p) (h : J w0 n D E (wh p A :: R) G) : J w0 n D E L G :=
  h.st fun _ H => (H.take t).imp fun _ H' => sep_wh.2 ⟨hp, H'⟩
/-- A slice that is owned, stored in a variable. -/
theorem s_storeO {T R' T2 : TypeId} {x y : Operand} {pos : String} {af : Array Edge} {g : Option (Nat × Bool)} {b o k m : Nat} {Tb : TypeId} {v : Value} {c c' c0 : List Value} {R0 : List SP} (hx : ev E x = some (.pointer (some ⟨b, o, none⟩))) (hy : ev E y = some v) (t0 : Take L (Own T2 k v m c0) R0) (hz : ∀ w, (sizeOf T).run P w = .ok 1 w)
    (u : Upd L (cl b Tb c) (cl b Tb c') L') (ho : ovw c o [v] = some c') (kk : J w0 n D E L' (O ro P l0.toArray l Q)) (hw : wantE l0 E g = some true := by rfl) : J w0 n D E L (O ro P l0.toArray (⟨none, .store T x y, R', pos, af, g⟩ :: l) Q) :=
  fun a w he hs => s_store1 hx hy (own_one (hs.take t0)) hz u ho kk hw a w he hs

/-! ### deletes -/
variable {κ υ : Type} [DecidableEq κ] {kenc : κ → Value} {venc : υ → Value} {m : List (κ × υ)}
def mdelb (k : κ) (m : List (κ × υ)) (bs : List Nat) : List Nat := match mfnd k m 0 with
  | some (j, _) => bs.eraseIdx j
  | none => bs
theorem mdelb_bok {k : κ} {bs : List Nat} {clock : Nat} (hb : BOK m bs clock) : BOK (mdel k m) (mdelb k m bs) clock := by
  unfold mdelb
  cases hf : mfnd k m 0 with
  | none => rw [mdel_none hf]; exact hb
  | some p => exact mdel_bok hb hf
theorem run_deleteB {T kt vt R' : TypeId} {b clock : Nat} {bs : List Nat} {k : κ} {w : World} (hT : P.underlying T = some (.map kt vt)) (K : KeyOK P kt kenc) (hk : BOK m bs clock) (hs' : St w0 (MapB b kenc venc m bs clock :: R) w) {tys : Array TypeId} (ht : tys[0]? = some T) :
    ∃ w', (Builtin.delete_ tys R' #[.map (some b), kenc k]).run P w = .ok (.tuple #[]) w' ∧ St w0 (MapB b kenc venc (mdel k m) (mdelb k m bs) clock :: R) w' := by
  have hb := hs'.get_pt.1
  have hfind := K.find venc k m bs w hk.1
  unfold mdelb
  cases hf : mfnd k m 0 with
  | none =>
    rw [hf] at hfind
    refine ⟨{ w with heap := w.heap.setIfInBounds b (.map (ents kenc venc m bs).toArray clock) }, ?_, ?_⟩
    · unfold Builtin.delete_
      simp [ht, run_underlying hT, Result.andThen, getObj_of hb, K.check, hfind, setObj_of hb]
    · rw [mdel_none hf]
      exact hs'.setB (o' := .map (ents kenc venc m bs).toArray clock) .here
  | some p =>
    obtain ⟨j, x⟩ := p
    rw [hf] at hfind
    obtain ⟨_, _, hj, h4⟩ := mdel_some (kenc := kenc) (venc := venc) hf hk.1
    refine ⟨{ w with heap := w.heap.setIfInBounds b (.map ((ents kenc venc m bs).toArray.eraseIdxIfInBounds j) clock) }, ?_, ?_⟩
    · unfold Builtin.delete_
      simp [ht, run_underlying hT, Result.andThen, getObj_of hb, K.check, hfind, setObj_of hb]
    · refine (hs'.setB (o' := .map ((ents kenc venc m bs).toArray.eraseIdxIfInBounds j) clock) .here).imp fun _ H => ?_
      simp only [Nat.sub_zero] at h4
      simp only [MapB]
      rw [← h4]
      have e : (ents kenc venc m bs).toArray.eraseIdxIfInBounds j = ((ents kenc venc m bs).eraseIdx j).toArray := by
        simp [List.eraseIdxIfInBounds_toArray]
      rw [← e]; exact H
theorem s_deleteB0 {T kt vt R' : TypeId} {x y : Operand} {pos : String} {af : Array Edge} {g : Option (Nat × Bool)} {b clock : Nat} {bs : List Nat} {k : κ} (hk : BOK m bs clock) (hx : ev E x = some (.map (some b))) (hy : ev E y = some (kenc k)) (hT : P.underlying T = some (.map kt vt)) (K : KeyOK P kt kenc)
    (t : Take L (MapB b kenc venc m bs clock) R) (kk : J w0 n D E (MapB b kenc venc (mdel k m) (mdelb k m bs) clock :: R) (O ro P l0.toArray l Q)) (hw : wantE l0 E g = some true := by rfl) :
    J w0 n D E L (O ro P l0.toArray (⟨none, .call ⟨.builtin .delete, #[x, y], #[T, kt]⟩, R', pos, af, g⟩ :: l) Q) := fun a w he hs => by
  refine O_step rfl hw he ?_
  obtain ⟨w', hr, hs'⟩ := run_deleteB (R' := R') (k := k) (tys := #[T, kt]) hT K hk (hs.take t) rfl
  simp [execOp, resolve, invoke, builtin, he.ev hx, he.ev hy, hr, Result.andThen]
  exact kk _ _ he hs'
end

section
variable {κ υ : Type} [DecidableEq κ] {kenc : κ → Value} {venc : υ → Value} {m : List (κ × υ)}
variable {w0 : World} {n : Nat} {D : List Deferred} {E : List (Nat × Value)} {L R : List SP} {P : Program}
theorem pv_lookupOkZ {T kt vt R' : TypeId} {x y : Operand} {b : Nat} {k : κ} (z : υ) (hx : ev E x = some (.map (some b))) (hy : ev E y = some (kenc k)) (hT : P.underlying T = some (.map kt vt)) (K : KeyOK P kt kenc) (hz : ∀ w, (zeroValue vt).run P w = .ok (venc z) w)
    (t : Take L (MapP b kenc venc m) R) : PV P w0 n D E L (.lookup T x y true) R' (.tuple #[venc (mval k z m), .bool (mget k m).isSome]) :=
  pv_is (pv_lookupOk hx hy hT K hz t) (by unfold mval; cases mget k m <;> rfl)
theorem pv_lookupZ {T kt vt R' : TypeId} {x y : Operand} {b : Nat} {k : κ} (z : υ) (hx : ev E x = some (.map (some b))) (hy : ev E y = some (kenc k)) (hT : P.underlying T = some (.map kt vt)) (K : KeyOK P kt kenc) (hz : ∀ w, (zeroValue vt).run P w = .ok (venc z) w)
    (t : Take L (MapP b kenc venc m) R) : PV P w0 n D E L (.lookup T x y false) R' (venc (mval k z m)) :=
  pv_is (pv_lookup hx hy hT K hz t) (by unfold mval; cases mget k m <;> rfl)
theorem pv_lookupBZ {T kt vt R' : TypeId} {x y : Operand} {b clock : Nat} {bs : List Nat} {k : κ} (z : υ) (hk : BOK m bs clock) (hx : ev E x = some (.map (some b))) (hy : ev E y = some (kenc k)) (hT : P.underlying T = some (.map kt vt)) (K : KeyOK P kt kenc) (hz : ∀ w, (zeroValue vt).run P w = .ok (venc z) w)
    (t : Take L (MapB b kenc venc m bs clock) R) : PV P w0 n D E L (.lookup T x y false) R' (venc (mval k z m)) :=
  pv_is (pv_lookupB hk hx hy hT K hz t) (by unfold mval; cases mget k m <;> rfl)
end
/-! ### a map swept as it is walked -/
section
variable {κ υ : Type} [DecidableEq κ]
/-- What is left of a map's entries, those seen asked. -/
def swp (pd : κ → υ → Bool) (z : List ((κ × υ) × Nat)) (seen : Array Nat) : List ((κ × υ) × Nat) := z.filter fun p => !(seen.contains p.2 && pd p.1.1 p.1.2)
theorem zip_fst {m : List (κ × υ)} {bs : List Nat} (h : bs.length = m.length) : (m.zip bs).map (·.1) = m := List.map_fst_zip (by omega)
theorem zip_snd {m : List (κ × υ)} {bs : List Nat} (h : bs.length = m.length) : (m.zip bs).map (·.2) = bs := List.map_snd_zip (by omega)
theorem swp_nil {pd : κ → υ → Bool} {z : List ((κ × υ) × Nat)} : swp pd z #[] = z := by simp [swp]
theorem bok_sub {z z' : List ((κ × υ) × Nat)} {clock : Nat} (h : BOK (z.map (·.1)) (z.map (·.2)) clock) (hs : z'.Sublist z) : BOK (z'.map (·.1)) (z'.map (·.2)) clock :=
  ⟨by simp, h.2.1.sublist (hs.map _), fun x hx => h.2.2 x ((hs.map _).subset hx)⟩
theorem bok_swp {pd : κ → υ → Bool} {z : List ((κ × υ) × Nat)} {seen : Array Nat} {clock : Nat} (h : BOK (z.map (·.1)) (z.map (·.2)) clock) : BOK ((swp pd z seen).map (·.1)) ((swp pd z seen).map (·.2)) clock :=
  bok_sub h List.filter_sublist
theorem swp_mem {pd : κ → υ → Bool} {z : List ((κ × υ) × Nat)} {seen : Array Nat} {i y : Nat} {k : κ} {v : υ} (hm : ((swp pd z seen).map (·.1))[i]? = some (k, v)) (hy : ((swp pd z seen).map (·.2))[i]? = some y) : (swp pd z seen)[i]? = some ((k, v), y) ∧ ((k, v), y) ∈ z := by
  rw [List.getElem?_map] at hm hy
  cases h : (swp pd z seen)[i]? with
  | none => rw [h] at hm; cases hm
  | some p =>
    rw [h] at hm hy
    obtain ⟨⟨k', v'⟩, y'⟩ := p
    cases hm; cases hy
    exact ⟨rfl, (List.mem_filter.1 (List.mem_of_getElem? h)).1⟩
theorem nodup_snd {z : List ((κ × υ) × Nat)} (h : (z.map (·.2)).Nodup) : ∀ {p q : (κ × υ) × Nat}, p ∈ z → q ∈ z → p.2 = q.2 → p = q := by
  induction z with
  | nil => intro p q hp; cases hp
  | cons a z ih =>
    intro p q hp hq e
    simp only [List.map_cons, List.nodup_cons] at h
    rcases List.mem_cons.1 hp with h1 | h1 <;> rcases List.mem_cons.1 hq with h2 | h2
    · rw [h1, h2]
    · exact absurd (List.mem_map.2 ⟨q, h2, by rw [← e, h1]⟩) h.1
    · exact absurd (List.mem_map.2 ⟨p, h1, by rw [e, h2]⟩) h.1
    · exact ih h.2 h1 h2 e
theorem swp_stays {pd : κ → υ → Bool} {z : List ((κ × υ) × Nat)} {seen : Array Nat} {y : Nat} {k : κ} {v : υ} (hn : (z.map (·.2)).Nodup) (hz : ((k, v), y) ∈ z) (hp : pd k v = false) : swp pd z (seen.push y) = swp pd z seen := by
  unfold swp
  refine List.filter_congr fun p hpz => ?_
  by_cases e : p.2 = y
  · have := nodup_snd hn hpz hz e
    subst this; simp [hp]
  · simp [e]
theorem swp_gone {pd : κ → υ → Bool} {z : List ((κ × υ) × Nat)} {seen : Array Nat} {y : Nat} {k : κ} {v : υ} (hn : (z.map (·.2)).Nodup) (hz : ((k, v), y) ∈ z) (hp : pd k v = true) : swp pd z (seen.push y) = (swp pd z seen).filter fun p => p.2 != y := by
  unfold swp
  rw [List.filter_filter]
  refine List.filter_congr fun p hpz => ?_
  by_cases e : p.2 = y
  · have := nodup_snd hn hpz hz e
    subst this; simp [hp]
  · simp [e]
theorem mdel_zip {z : List ((κ × υ) × Nat)} {y : Nat} {k : κ} {v : υ} (hk : (z.map (·.1.1)).Nodup) (hn : (z.map (·.2)).Nodup) (hz : ((k, v), y) ∈ z) :
    mdel k (z.map (·.1)) = (z.filter fun p => p.2 != y).map (·.1) ∧ mdelb k (z.map (·.1)) (z.map (·.2)) = (z.filter fun p => p.2 != y).map (·.2) := by
  suffices h : mdel k (z.map (·.1)) = (z.filter fun p => p.2 != y).map (·.1) ∧ ∃ j, (∀ i, mfnd k (z.map (·.1)) i = some (j + i, v)) ∧ (z.map (·.2)).eraseIdx j = (z.filter fun p => p.2 != y).map (·.2) by
    obtain ⟨h1, j, h2, h3⟩ := h
    refine ⟨h1, ?_⟩
    have := h2 0
    rw [Nat.add_zero] at this
    simp only [mdelb, this]
    exact h3
  induction z with
  | nil => cases hz
  | cons a z ih =>
    obtain ⟨⟨k', v'⟩, y'⟩ := a
    simp only [List.map_cons, List.nodup_cons] at hk hn
    by_cases e : k = k'
    · subst e
      have : ((k, v), y) = ((k, v'), y') := by
        rcases List.mem_cons.1 hz with h | h
        · exact h
        · exact absurd (List.mem_map.2 ⟨_, h, rfl⟩) hk.1
      obtain ⟨⟨_, rfl⟩, rfl⟩ : (k = k ∧ v = v') ∧ y = y' := by simpa using this
      have hf : z.filter (fun p => p.2 != y) = z := List.filter_eq_self.2 fun p hp => by
        have : p.2 ≠ y := fun h => hn.1 (List.mem_map.2 ⟨p, hp, h⟩)
        simpa using this
      refine ⟨by simp [mdel, hf], 0, fun i => by simp [mfnd], by simp [hf]⟩
    · have hz' : ((k, v), y) ∈ z := by
        rcases List.mem_cons.1 hz with h | h
        · exfalso; apply e; have := congrArg (·.1.1) h; exact this
        · exact h
      have hy : y' ≠ y := fun h => hn.1 (List.mem_map.2 ⟨_, hz', h.symm⟩)
      obtain ⟨h1, j, h2, h3⟩ := ih hk.2 hn.2 hz'
      refine ⟨by simp [mdel, e, hy, h1], j + 1, fun i => ?_, by simp [hy, h3]⟩
      simp only [List.map_cons, mfnd, e, if_false, h2]
      congr 2; omega
theorem swp_end {pd : κ → υ → Bool} {z : List ((κ × υ) × Nat)} {seen : Array Nat} (h : ∀ y ∈ (swp pd z seen).map (·.2), y ∈ seen) : (swp pd z seen).map (·.1) = (z.map (·.1)).filter fun p => !pd p.1 p.2 := by
  have : swp pd z seen = z.filter fun p => !pd p.1.1 p.1.2 := by
    unfold swp
    refine List.filter_congr fun p hp => ?_
    cases hpd : pd p.1.1 p.1.2 with
    | false => simp
    | true =>
      cases hc : seen.contains p.2 with
      | true => simp
      | false =>
        exfalso
        have hin : p ∈ swp pd z seen := List.mem_filter.2 ⟨hp, by simp only [hpd, hc]; rfl⟩
        have := h p.2 (List.mem_map.2 ⟨p, hin, rfl⟩)
        have h2 : seen.contains p.2 = true := by simpa using this
        rw [h2] at hc; cases hc
  rw [this, List.filter_map]
  rfl
end
end Go.Z
