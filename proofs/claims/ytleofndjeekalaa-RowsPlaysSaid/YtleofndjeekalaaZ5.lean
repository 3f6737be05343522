/- The words of a small separation logic over the model: slices that the call owns. -/
import Derived.Test.YtleofndjeekalaaZ4
namespace Go.Z
open Go Go.RowKit

/-- A slice of n elements of k cells each that owns its array. -/
def Own (T : TypeId) (k : Nat) (v : Value) (n : Nat) (l : List Value) : SP := fun h =>
  (v = .slice none 0 0 ∧ n = 0 ∧ l = []) ∨ ∃ b cap sp, v = .slice (some ⟨b, 0, none⟩) n cap ∧ l.length = n * k ∧ l.length + sp.length = cap * k ∧ cl b T (l ++ sp) h

section
variable {w0 : World} {n : Nat} {D : List Deferred} {E E' E1 : List (Nat × Value)} {L L' R As : List SP} {P : Program} {ro : Option Nat} {Q : Exit → Act → World → Prop} {l0 l : List Oper}

theorem own_nil (T : TypeId) (k : Nat) {R : List SP} {h : Hp} (H : sep R h) : sep (Own T k (.slice none 0 0) 0 [] :: R) h :=
  ⟨fun _ => none, h, fun _ => .inl rfl, fun _ _ e => by simp at e, Sub.refl _, .inl ⟨rfl, rfl, rfl⟩, H⟩
/-- A slice just made out of a row. -/
theorem own_mk {T : TypeId} {k b m cap : Nat} {c sp : List Value} {R : List SP} {h : Hp} (H : sep (cl b T (c ++ sp) :: R) h) (h1 : c.length = m * k) (h2 : c.length + sp.length = cap * k) : sep (Own T k (.slice (some ⟨b, 0, none⟩) m cap) m c :: R) h :=
  sep_head (fun _ hc => .inr ⟨b, cap, sp, rfl, h1, h2, hc⟩) H
theorem St.own_nil (T : TypeId) (k : Nat) {w : World} (H : St w0 L w) : St w0 (Own T k (.slice none 0 0) 0 [] :: L) w := H.imp fun _ => Z.own_nil T k
theorem J.own_nil (T : TypeId) (k : Nat) {G : Act → World → Prop} (h : J w0 n D E (Own T k (.slice none 0 0) 0 [] :: L) G) : J w0 n D E L G := h.st fun _ H => H.own_nil T k
theorem J.own_mk {T : TypeId} {k b m : Nat} {c : List Value} {G : Act → World → Prop} (t : Take L (cl b T c) R) (h1 : c.length = m * k) (h : J w0 n D E (Own T k (.slice (some ⟨b, 0, none⟩) m m) m c :: R) G) : J w0 n D E L G :=
  h.st fun _ H => (H.take t).imp fun _ H' => Z.own_mk (sp := []) (by simpa using H') h1 (by simpa using h1)
/-- A slice laid open: nil, or a row. -/
theorem St.own {T : TypeId} {k m : Nat} {v : Value} {c : List Value} {w : World} (H : St w0 (Own T k v m c :: R) w) :
    (v = .slice none 0 0 ∧ m = 0 ∧ c = [] ∧ St w0 R w) ∨ ∃ b cap sp, v = .slice (some ⟨b, 0, none⟩) m cap ∧ c.length = m * k ∧ c.length + sp.length = cap * k ∧ St w0 (cl b T (c ++ sp) :: R) w := by
  obtain ⟨hb, hp, hh, x1, x2, d, s1, s2, ha, hl⟩ := H
  rcases ha with ⟨e1, e2, e3⟩ | ⟨b, cap, sp, e1, e2, e3, e4⟩
  · exact .inl ⟨e1, e2, e3, hb, hp, hh, sep_mono s2 hl⟩
  · exact .inr ⟨b, cap, sp, e1, e2, e3, hb, hp, hh, x1, x2, d, s1, s2, e4, hl⟩
theorem J.own {T : TypeId} {k m : Nat} {v : Value} {c : List Value} {G : Act → World → Prop} (h1 : v = .slice none 0 0 → m = 0 → c = [] → J w0 n D E R G)
    (h2 : ∀ b cap sp, v = .slice (some ⟨b, 0, none⟩) m cap → c.length = m * k → c.length + sp.length = cap * k → J w0 n D E (cl b T (c ++ sp) :: R) G) : J w0 n D E (Own T k v m c :: R) G := fun a w he hs => by
  rcases hs.own with ⟨e1, e2, e3, h⟩ | ⟨b, cap, sp, e1, e2, e3, h⟩
  · exact h1 e1 e2 e3 a w he h
  · exact h2 b cap sp e1 e2 e3 a w he h
theorem pv_lenO {x : Operand} {T S R' : TypeId} {k m : Nat} {v : Value} {c : List Value} (hx : ev E x = some v) (t : Take L (Own T k v m c) R) (hT : P.underlying S = some (.slice T)) :
    PV P w0 n D E L (.call ⟨.builtin .len, #[x], #[S]⟩) R' (.int .i64 m) := fun act w he hs _ _ _ _ => by
  rcases (hs.take t).own with ⟨e1, e2, _⟩ | ⟨b, cap, sp, e1, _⟩
  · simp [execOp, resolve, invoke, builtin, Builtin.len_, underlying, hT, he.ev hx, goInt, e1, e2]
  · simp [execOp, resolve, invoke, builtin, Builtin.len_, underlying, hT, he.ev hx, goInt, e1]

theorem j_own {T : TypeId} {k b m cap : Nat} {c sp : List Value} {G : Act → World → Prop} (t : Take L (cl b T (c ++ sp)) R) (h1 : c.length = m * k) (h2 : c.length + sp.length = cap * k) (h : J w0 n D E (Own T k (.slice (some ⟨b, 0, none⟩) m cap) m c :: R) G) : J w0 n D E L G :=
  h.st fun _ H => (H.take t).imp fun _ H' => Z.own_mk H' h1 h2
theorem j_unown {T : TypeId} {k m : Nat} {v : Value} {c : List Value} {G : Act → World → Prop} (t : Take L (Own T k v m c) R) (h1 : v = .slice none 0 0 → m = 0 → c = [] → J w0 n D E R G)
    (h2 : ∀ b cap sp, v = .slice (some ⟨b, 0, none⟩) m cap → c.length = m * k → c.length + sp.length = cap * k → J w0 n D E (cl b T (c ++ sp) :: R) G) : J w0 n D E L G := J.take t (J.own h1 h2)

/-- What a slice's row reads as, whatever holds it. -/
def Reads (w0 : World) (L : List SP) (a : Addr) (vs : List Value) : Prop := ∀ w, St w0 L w → ∀ (j : Nat) u, vs[j]? = some u → w.cell? (a.add j) = some u
theorem reads_cl {b o k : Nat} {T : TypeId} {c vs : List Value} (t : Take L (cl b T c) R) (h : slc c o k = some vs) : Reads w0 L ⟨b, o, none⟩ vs := fun w hs j u hj => by
  rw [add_none, cell_of_block (hs.getc t)]; exact slc_get h hj
theorem reads_ro {b o j k o' : Nat} {c vs : List Value} (h : Ro w0 b o c) (ho : o' = o + j) (hv : slc c j k = some vs) : Reads w0 L ⟨b, o', none⟩ vs := fun w hs i u hi => by
  subst ho; rw [add_none, Nat.add_assoc]; exact h.cell hs (slc_get hv hi)

theorem info_of {T : TypeId} {ti : TypeInfo} (hi : ∀ w, (typeInfo T).run P w = .ok ti w) : P.info? T = some ti := by
  have h := hi default
  simp only [typeInfo, Sem.run_bind, run_program, Result.andThen] at h
  cases hp : P.info? T with
  | none => rw [hp] at h; simp at h
  | some i => rw [hp] at h; simp at h; rw [h]
theorem setRow_eq {w : World} {b : Nat} {old : Array Value} {T : TypeId} (h : w.heap[b]? = some (.cells old T (0, 0))) (cs : Array Value) :
    w.setRow b cs = { w with heap := w.heap.setIfInBounds b (.cells cs T (0, 0)) } := by
  unfold World.setRow
  congr 1
  apply Array.ext_getElem?
  intro i
  simp only [Array.getElem?_modify, Array.getElem?_setIfInBounds]
  by_cases e : b = i
  · subst e
    have hlt : b < w.heap.size := (Array.getElem?_eq_some_iff.1 h).1
    rw [Array.getElem?_eq_getElem hlt] at h ⊢
    simp only [if_true, Option.map_some, hlt]
    rw [Option.some.inj h]
  · simp [e]
theorem ones_mem : ∀ {l : List Value}, ones l = true → ∀ u ∈ l, u.oneCell' = true := by
  intro l
  induction l with
  | nil => intro _ u hu; cases hu
  | cons v l ih => intro h u hu; obtain ⟨h1, h2⟩ := ones_cons h; rcases List.mem_cons.1 hu with e | e
                   · rw [e]; exact h1
                   · exact ih h2 u e

theorem append_run {S T Ty : TypeId} {ti : TypeInfo} {k m m2 cap2 : Nat} {z v : Value} {c c2 : List Value} {a2 : Addr} {w : World}
    (hu : P.underlying S = some (.slice T)) (hi : ∀ w, (typeInfo T).run P w = .ok ti w) (hk : ti.size = k) (hz : ti.zero = some z) (hzc : z.cells.size = k)
    (hb : (m + m2) * ti.bytes ≤ 140737488355328) (hmax : m + m2 ≤ 9223372036854775807) (h1 : ones c2 = true) (hl2 : c2.length = m2 * k) (hm2 : 0 < m2 ∨ v ≠ .slice none 0 0)
    (hr : ∀ (j : Nat) u, c2[j]? = some u → w.cell? (a2.add j) = some u)
    (hs : St w0 (Own T k v m c :: R) w) :
    ∃ v' w', (Builtin.append_ #[S, S] Ty #[v, .slice (some a2) m2 cap2]).run P w = .ok v' w' ∧ St w0 (Own T k v' (m + m2) (c ++ c2) :: R) w' := by
  have hinf := info_of hi
  rcases hs.own with ⟨e1, e2, e3, h⟩ | ⟨b, cap, sp, e1, e2, e3, h⟩
  · subst e1; subst e2; subst e3
    have hpos : 0 < m2 := hm2.resolve_right (fun h => h rfl)
    have hb2 : m2 * ti.bytes ≤ 281474976710656 := by rw [Nat.zero_add] at hb; omega
    have hrun := run_append_nil (P := P) w S Ty T ti z hu hinf hz a2 m2 cap2 c2 (by rw [hl2, hk]) hr hpos (by omega) hb2
    refine ⟨_, _, hrun, ?_⟩
    have hd : St w0 R w.drew := h.drew
    have := hd.alloc (.cells (c2.toArray ++ Builtin.zeroCells z.cells (grownCap w m2 0 T - m2)) T)
    refine this.imp fun h' H' => ?_
    have hge := grownCap_ge w m2 0 T
    rw [Nat.zero_add, List.nil_append]
    refine own_mk (sp := (Builtin.zeroCells z.cells (grownCap w m2 0 T - m2)).toList) ?_ hl2 ?_
    · refine sep_head (fun x hx => ?_) H'
      have hx' : x w.heap.size = _ := hx
      simp only [cl]
      rw [hx']
      congr 2
      apply Array.ext'; simp
    · simp only [Array.length_toList, size_zeroCells, hzc, hl2]
      rw [← Nat.add_mul]; congr 1; omega
  · subst e1
    have hg := h.getc Take.here
    by_cases hroom : m + m2 ≤ cap
    · have hfit : m * ti.size + c2.length ≤ (c ++ sp).toArray.size := by
        rw [hk, hl2, ← Nat.add_mul]
        have : (m + m2) * k ≤ cap * k := Nat.mul_le_mul_right _ hroom
        simp only [List.size_toArray, List.length_append]; omega
      have hrun := run_append_room (P := P) w S Ty T ti hu hinf b m cap (c ++ sp).toArray hg a2 m2 cap2 c2 (by rw [hl2, hk]) hr (ones_mem h1) hroom hfit
      refine ⟨_, _, hrun, ?_⟩
      rw [setRow_eq hg]
      have hlen : m * ti.size = c.length := by rw [hk, e2]
      have hl : (List.take (m * ti.size) (c ++ sp).toArray.toList ++ c2 ++ List.drop (m * ti.size + c2.length) (c ++ sp).toArray.toList) = (c ++ c2) ++ sp.drop c2.length := by
        rw [hlen]
        simp [List.drop_append]
      rw [hl]
      have := h.setB (o' := .cells ((c ++ c2) ++ sp.drop c2.length).toArray T (0, 0)) Upd.here
      refine this.imp fun h' H' => own_mk (sp := sp.drop c2.length) H' (by simp [e2, hl2, Nat.add_mul]) ?_
      have : (m + m2) * k ≤ cap * k := Nat.mul_le_mul_right _ hroom
      rw [Nat.add_mul] at this
      simp only [List.length_append, List.length_drop]
      omega
    · have hrun := run_append_grow (P := P) w S Ty T ti z hu hinf hz ⟨b, 0, none⟩ m cap c (by rw [e2, hk]) (fun j u hj => by rw [add_none, cell_of_block hg]; rw [Nat.zero_add, List.getElem?_append_left (List.getElem?_eq_some_iff.1 hj).1]; exact hj) a2 m2 cap2 c2 (by rw [hl2, hk]) hr (by omega) (by omega)
        (growslice_fits (by omega) hb)
      refine ⟨_, _, hrun, ?_⟩
      have hd : St w0 R w.drew := h.tail.drew
      have := hd.alloc (.cells (c.toArray ++ c2.toArray ++ Builtin.zeroCells z.cells (grownCap w (m + m2) cap T - (m + m2))) T)
      refine this.imp fun h' H' => ?_
      have hge := grownCap_ge w (m + m2) cap T
      refine own_mk (sp := (Builtin.zeroCells z.cells (grownCap w (m + m2) cap T - (m + m2))).toList) ?_ (by simp [e2, hl2, Nat.add_mul]) ?_
      · refine sep_head (fun x hx => ?_) H'
        have hx' : x w.heap.size = _ := hx
        simp only [cl]
        rw [hx']
        congr 2
        apply Array.ext'; simp
      · simp only [List.length_append, Array.length_toList, size_zeroCells, hzc, e2, hl2]
        rw [← Nat.add_mul, ← Nat.add_mul]; congr 1; omega
/-- 'append(s, xs...)'. -/
theorem own_one {T : TypeId} {k m : Nat} {v : Value} {c : List Value} {w : World} (H : St w0 (Own T k v m c :: R) w) : v.oneCell' = true := by
  rcases H.own with ⟨e, _⟩ | ⟨b, cap, sp, e, _⟩ <;> rw [e] <;> rfl
theorem s_append {x y : Operand} {S T Ty : TypeId} {ti : TypeInfo} {k m m2 cap2 d by' : Nat} {z v : Value} {c c2 : List Value} {a2 : Addr} {pos : String} {af : Array Edge} {g : Option (Nat × Bool)}
    (hx : ev E x = some v) (hy : ev E y = some (.slice (some a2) m2 cap2)) (t : Take L (Own T k v m c) R) (hr : Reads w0 L a2 c2) (hu : P.underlying S = some (.slice T)) (hi : ∀ w, (typeInfo T).run P w = .ok ti w) (hk : ti.size = k) (hz : ti.zero = some z) (hzc : z.cells.size = k)
    (hby : ti.bytes = by') (hl2 : c2.length = m2 * k) (h1 : ones c2 = true) (hm2 : 0 < m2 ∨ v ≠ .slice none 0 0) (hb : (m + m2) * by' ≤ 140737488355328) (hmax : m + m2 ≤ 9223372036854775807)
    (kk : ∀ v', v'.oneCell' = true → J w0 n D ((d, v') :: E) (Own T k v' (m + m2) (c ++ c2) :: R) (O ro P l0.toArray l Q)) (hd : Nat.blt d n = true := by rfl) (hw : wantE l0 E g = some true := by rfl) :
    J w0 n D E L (O ro P l0.toArray (⟨some d, .call ⟨.builtin .append, #[x, y], #[S, S]⟩, Ty, pos, af, g⟩ :: l) Q) := fun a w he hs => by
  refine O_step rfl hw he ?_
  obtain ⟨v', w', h, h'⟩ := append_run (P := P) (Ty := Ty) (cap2 := cap2) hu hi hk hz hzc (by rw [hby]; exact hb) hmax h1 hl2 hm2 (hr w hs) (hs.take t)
  have : (execOp a.eval ⟨some d, .call ⟨.builtin .append, #[x, y], #[S, S]⟩, Ty, pos, af, g⟩).run P w = .ok (.value v') w' := by
    simp only [execOp, resolve, List.map_toArray, List.map_cons, List.map_nil, he.ev hx, he.ev hy, pure_bind, invoke, builtin, Sem.run_bind, h, Result.andThen]; rfl
  rw [this]
  exact kk v' (own_one h') _ _ (he.put hd v') h'
/-- 'append(s)', the slice that is appended being nil. -/
theorem s_append0 {x y : Operand} {S T Ty : TypeId} {k m d cap2 : Nat} {p : Option Addr} {v : Value} {c : List Value} {pos : String} {af : Array Edge} {g : Option (Nat × Bool)} {ti : TypeInfo}
    (hx : ev E x = some v) (hy : ev E y = some (.slice p 0 cap2)) (t : Take L (Own T k v m c) R) (hu : P.underlying S = some (.slice T)) (hi : ∀ w, (typeInfo T).run P w = .ok ti w) (hk : ti.size = k) (hk0 : 0 < k)
    (kk : J w0 n D ((d, v) :: E) L (O ro P l0.toArray l Q)) (hd : Nat.blt d n = true := by rfl) (hw : wantE l0 E g = some true := by rfl) :
    J w0 n D E L (O ro P l0.toArray (⟨some d, .call ⟨.builtin .append, #[x, y], #[S, S]⟩, Ty, pos, af, g⟩ :: l) Q) := fun a w he hs => by
  refine O_step rfl hw he ?_
  have hinf := info_of hi
  have hf : ∀ q, (Builtin.firstCells k 0 (.slice q 0 cap2)).run P w = .ok #[] w := fun q => by
    cases q <;> simp [Builtin.firstCells, loadCells, loadCellsFrom]
  have : (Builtin.append_ #[S, S] Ty #[v, .slice p 0 cap2]).run P w = .ok v w := by
    rcases (hs.take t).own with ⟨e1, e2, e3, h⟩ | ⟨b, cap, sp, e1, e2, e3, h⟩
    · subst e1
      simp [Builtin.append_, run_underlying hu, sizeOf, hi, hk, Builtin.lenOf, hf]
    · subst e1
      have hmc : m ≤ cap := by
        rcases Nat.lt_or_ge cap m with h' | h'
        · have : (cap + 1) * k ≤ m * k := Nat.mul_le_mul_right _ h'
          rw [Nat.add_mul] at this; omega
        · exact h'
      simp [Builtin.append_, run_underlying hu, sizeOf, hi, hk, Builtin.lenOf, hf, hmc, storeCells]
  have : (execOp a.eval ⟨some d, .call ⟨.builtin .append, #[x, y], #[S, S]⟩, Ty, pos, af, g⟩).run P w = .ok (.value v) w := by
    simp only [execOp, resolve, List.map_toArray, List.map_cons, List.map_nil, he.ev hx, he.ev hy, pure_bind, invoke, builtin, Sem.run_bind, this, Result.andThen]; rfl
  rw [this]
  exact kk _ _ (he.put hd v) hs

/-! ### a slice's literal -/
def fillS (k : Nat) : List Value → List (Nat × List Value) → Option (List Value)
  | c, [] => some c
  | c, (i, vs) :: rest => match Nat.beq vs.length k with
    | true => match ovw c (i * k) vs with
      | some c' => fillS k c' rest
      | none => none
    | false => none
theorem fillS_spec {k : Nat} : ∀ {ps : List (Nat × Value)} {c r : List Value}, fillS k c (cellsP ps) = some r → (∀ p ∈ ps, cellsL p.2 ≠ []) → Instr.fill (fun i => some (i * k, k)) c.toArray ps = some r.toArray := by
  intro ps
  induction ps with
  | nil => intro c r h _; simp [cellsP, fillS] at h; subst h; rfl
  | cons p ps ih =>
    obtain ⟨i, v⟩ := p
    intro c r h hne
    simp only [cellsP, fillS] at h
    split at h
    · rename_i hb
      split at h
      · rename_i c' ho
        have hsz := Nat.eq_of_beq_eq_true hb
        have hlen : i * k + (cellsL v).length ≤ c.length := (ovw_len ho).resolve_right (hne (i, v) (by simp))
        simp only [Instr.fill]
        have h1 : v.cells.size = k := by rw [cellsL_spec]; simpa using hsz
        have h2 : ¬ (i * k + v.cells.size > c.toArray.size) := by rw [h1]; simp; omega
        have h1' : ¬ (v.cells.size ≠ k) := fun h => h h1
        simp only [h1', h2, decide_false, Bool.or_self, Bool.false_eq_true, if_false]
        have h3 := foldl_ovw (off := i * k) (cellsL v) 0 c c' (by simpa using ho)
        have h4 : (v.cells.zipIdx.foldl (fun (cs : Array Value) (p : Value × Nat) => cs.setIfInBounds (i * k + p.2) p.1) c.toArray) = c'.toArray := by
          rw [← h3, cellsL_spec, ← Array.foldl_toList]; simp
        have h5 := ih h (fun p hp => hne p (by simp [hp]))
        rw [← h4] at h5
        exact h5
      · cases h
    · cases h
def rept : Nat → List Value → List Value
  | 0, _ => []
  | m + 1, z => z ++ rept m z
theorem rept_get {z : List Value} : ∀ {m i : Nat}, i < m * z.length → (rept m z)[i]? = z[i % z.length]? := by
  intro m
  induction m with
  | zero => intro i h; simp at h
  | succ m ih =>
    intro i h
    simp only [rept]
    rcases Nat.lt_or_ge i z.length with h' | h'
    · rw [List.getElem?_append_left h', Nat.mod_eq_of_lt h']
    · rw [List.getElem?_append_right h', ih (by rw [Nat.add_mul, Nat.one_mul] at h; omega)]
      rw [Nat.mod_eq_sub_mod h']
theorem rept_len {z : List Value} : ∀ {m : Nat}, (rept m z).length = m * z.length := by
  intro m
  induction m with
  | zero => simp [rept]
  | succ m ih => simp [rept, ih, Nat.add_mul]; omega
theorem zeros_eq (m : Nat) (z : List Value) : (Array.range (m * z.length)).map (z.toArray[· % z.toArray.size]!) = (rept m z).toArray := by
  apply Array.ext_getElem?
  intro i
  simp only [Array.getElem?_map, List.getElem?_toArray]
  rcases Nat.lt_or_ge i (m * z.length) with h | h
  · have hz : 0 < z.length := by rcases Nat.eq_zero_or_pos z.length with e | e
                                 · rw [e] at h; simp at h
                                 · exact e
    have hm := Nat.mod_lt i hz
    rw [rept_get h, List.getElem?_eq_getElem hm]
    simp [h, hm]
  · rw [List.getElem?_eq_none (by rw [rept_len]; exact h)]
    simp; omega
def copyO : List Value → Option (List Value)
  | [] => some []
  | x :: l => match copyO l with
    | some r => some (x :: r)
    | none => none
theorem copyO_eq : ∀ {l r : List Value}, copyO l = some r → r = l := by
  intro l
  induction l with
  | nil => intro r h; simp [copyO] at h; exact h
  | cons x l ih =>
    intro r h
    simp only [copyO] at h
    split at h
    · rename_i q hq; cases h; rw [ih hq]
    · cases h
theorem s_buildSlice {S T R' : TypeId} {m k d : Nat} {parts : List (Nat × Operand)} {vs : List (Nat × Value)} {z : Value} {zl r r0 : List Value} {pos : String} {af : Array Edge} {g : Option (Nat × Bool)}
    (hv : evp E parts = some vs) (hu : P.underlying S = some (.slice T)) (hz : ∀ w, (zeroValue T).run P w = .ok z w) (hs : ∀ w, (sizeOf T).run P w = .ok k w) (hzl : cellsL z = zl) (hkl : zl.length = k) (hf : fillS k (rept m zl) (cellsP vs) = some r0) (hr : copyO r0 = some r)
    (kk : ∀ b, J w0 n D ((d, .slice (some ⟨b, 0, none⟩) m m) :: E) (cl b T r :: L) (O ro P l0.toArray l Q)) (hm : Nat.ble (m * k) 16777216 = true := by rfl) (hne : noEmpty (cellsP vs) = true := by rfl) (hd : Nat.blt d n = true := by rfl) (hw : wantE l0 E g = some true := by rfl) :
    J w0 n D E L (O ro P l0.toArray (⟨some d, .buildSlice S m parts.toArray, R', pos, af, g⟩ :: l) Q) := fun a w he hst => by
  refine O_step rfl hw he ?_
  rw [← copyO_eq hr] at hf
  have hfs := fillS_spec hf (noEmpty_spec hne)
  have hm' : ¬ (m * k > 2 ^ 24) := by have := Nat.le_of_ble_eq_true hm; omega
  have : (execOp a.eval ⟨some d, .buildSlice S m parts.toArray, R', pos, af, g⟩).run P w = .ok (.value (.slice (some ⟨w.heap.size, 0, none⟩) m m)) (w.alloc (.cells r.toArray T)) := by
    by_cases h0 : m * k = 0
    · have hr0 : (rept m zl) = [] := List.eq_nil_of_length_eq_zero (by rw [rept_len, hkl, h0])
      rw [hr0] at hfs
      have hempty : (Array.map (fun (x : Nat) => (#[] : Array Value)[x % (#[] : Array Value).size]!) (Array.range 0)) = #[] := by simp
      simp only [execOp, List.map_toArray, he.evp hv, Instr.buildSlice, Sem.run_bind, run_underlying hu, Result.andThen, hs, h0, Nat.not_lt_zero, gt_iff_lt, if_false, if_true, Sem.run_pure, hempty, hfs, newRow, run_newObj]
      rfl
    · have hr0 := zeros_eq m zl
      rw [hkl] at hr0
      simp only [execOp, List.map_toArray, he.evp hv, Instr.buildSlice, Sem.run_bind, run_underlying hu, Result.andThen, hs, hm', h0, if_false, Sem.run_pure, hz, cellsL_spec, hzl, hr0, hfs, newRow, run_newObj]
      rfl
  rw [this]
  exact kk _ _ _ (he.put hd _) (hst.alloc _)
end
end Go.Z
