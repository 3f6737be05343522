/- Rows: all that was put, in order: the document's answer, and how it stands to ours. -/
import Derived.Test.YtleofndjeekalaaC6
namespace Go.Proofs.Ytleofndjeekalaa
open Go Go.RowKit
structure XSt where
  ps : List Cell
  ls : List Bool
def XSt.pa (x : XSt) (i : Nat) : Cell := x.ps.getD i Cell.z
def XSt.la (x : XSt) (i : Nat) : Bool := x.ls.getD i false
def dropL (x : XSt) (c : Cell) (i : Nat) : List Bool := (List.range i).map fun j => x.la j && !decide (x.pa j = c)
theorem dropL_len (x : XSt) (c : Cell) (i : Nat) : (dropL x c i).length = i := by simp [dropL]
theorem dropL_snoc (x : XSt) (c : Cell) (i : Nat) : dropL x c (i + 1) = dropL x c i ++ [x.la i && !decide (x.pa i = c)] := by
  simp [dropL, List.range_succ]
def XSt.drop (x : XSt) (c : Cell) : XSt := ⟨x.ps, dropL x c x.ps.length⟩
def XSt.put (x : XSt) (c : Cell) : XSt := ⟨x.ps ++ [c], dropL x c x.ps.length ++ [true]⟩
def fstB (ps : List Cell) (j : Nat) : Bool := decide (ps.getD j Cell.z ∉ ps.take j)
def evN (ps : List Cell) (i : Nat) : Nat := ((List.range i).filter (fstB ps)).length
theorem evN_succ (ps : List Cell) (i : Nat) : evN ps (i + 1) = evN ps i + if fstB ps i = true then 1 else 0 := by
  unfold evN
  rw [List.range_succ, List.filter_append, List.length_append]
  by_cases h : fstB ps i = true <;> simp [h]
theorem evN_le (ps : List Cell) (i : Nat) : evN ps i ≤ i := by
  unfold evN
  exact Nat.le_trans (List.length_filter_le _ _) (by simp)
theorem evN_snoc (ps : List Cell) (c : Cell) : evN (ps ++ [c]) (ps ++ [c]).length = evN ps ps.length + if c ∈ ps then 0 else 1 := by
  have e : (ps ++ [c]).length = ps.length + 1 := by simp
  rw [e, evN_succ]
  congr 1
  · unfold evN
    congr 1
    refine List.filter_congr fun j hj => ?_
    have hj : j < ps.length := by simpa using hj
    unfold fstB
    have e1 : (ps ++ [c]).getD j Cell.z = ps.getD j Cell.z := by simp [List.getD, List.getElem?_append_left hj]
    have e2 : (ps ++ [c]).take j = ps.take j := by rw [List.take_append_of_le_length (by omega)]
    rw [e1, e2]
  · unfold fstB
    have e1 : (ps ++ [c]).getD ps.length Cell.z = c := by simp [List.getD]
    have e2 : (ps ++ [c]).take ps.length = ps := by simp
    rw [e1, e2]
    by_cases h : c ∈ ps <;> simp [h]
structure Rel (r : RSt) (x : XSt) : Prop where
  len : x.ls.length = x.ps.length
  last : r.last = x.ps.length
  ver1 : ∀ i, i < x.ps.length → x.la i = true → Z.mget (x.pa i) r.ver = some ((i : Int) + 1)
  ver2 : ∀ c v, Z.mget c r.ver = some v → ∃ i, i < x.ps.length ∧ x.la i = true ∧ x.pa i = c ∧ v = (i : Int) + 1
  seen : ∀ c, (Z.mget c r.ev).isSome = decide (c ∈ x.ps)
  ever : r.ev.length = evN x.ps x.ps.length
  evt : EvT r
  kb : ∀ c ∈ x.ps, 0 ≤ c.k ∧ c.k < 4294967296
theorem rel_z : Rel RSt.z ⟨[], []⟩ := ⟨rfl, rfl, by simp, by simp [RSt.z, Z.mget], by simp [RSt.z, Z.mget], rfl, fun c b h => by simp [RSt.z, Z.mget] at h, by simp⟩
section
variable {r : RSt} {x : XSt} {c : Cell}
theorem la_drop {i : Nat} (h : i < x.ps.length) : (x.drop c).la i = (x.la i && !decide (x.pa i = c)) := by
  simp [XSt.la, XSt.drop, dropL, List.getD, h]
theorem la_put {i : Nat} (h : i < x.ps.length) : (x.put c).la i = (x.la i && !decide (x.pa i = c)) := by
  have : i < (dropL x c x.ps.length).length := by rw [dropL_len]; exact h
  show ((dropL x c x.ps.length ++ [true]).getD i false) = _
  rw [List.getD, List.getElem?_append_left this]
  simp [dropL, h]
theorem la_put_last : (x.put c).la x.ps.length = true := by
  show ((dropL x c x.ps.length ++ [true]).getD x.ps.length false) = _
  rw [List.getD, List.getElem?_append_right (by rw [dropL_len]; omega), dropL_len]
  simp
theorem pa_put {i : Nat} (h : i < x.ps.length) : (x.put c).pa i = x.pa i := by
  simp [XSt.pa, XSt.put, List.getD, List.getElem?_append_left h]
theorem pa_put_last : (x.put c).pa x.ps.length = c := by simp [XSt.pa, XSt.put, List.getD]
theorem rel_drop (ho : r.ok) (h : Rel r x) : Rel (r.drop c) (x.drop c) where
  len := dropL_len _ _ _
  last := h.last
  ver1 := fun i hi hl => by
    have hi : i < x.ps.length := hi
    rw [la_drop hi] at hl
    simp only [Bool.and_eq_true, Bool.not_eq_true', decide_eq_false_iff_not] at hl
    show Z.mget (x.pa i) (Z.mdel c r.ver) = _
    rw [Z.mget_mdel ho.nd, if_neg hl.2]
    exact h.ver1 i hi hl.1
  ver2 := fun d v hg => by
    have hg : Z.mget d (Z.mdel c r.ver) = some v := hg
    rw [Z.mget_mdel ho.nd] at hg
    by_cases e : d = c
    · rw [if_pos e] at hg; cases hg
    · rw [if_neg e] at hg
      obtain ⟨i, h1, h2, h3, h4⟩ := h.ver2 d v hg
      exact ⟨i, h1, by rw [la_drop h1, h2, h3]; simp [e], h3, h4⟩
  seen := h.seen
  ever := h.ever
  evt := h.evt
  kb := h.kb
theorem rel_put (h : Rel r x) (hc : 0 ≤ c.k ∧ c.k < 4294967296) : Rel (r.put c) (x.put c) where
  len := by simp [XSt.put, dropL_len]
  last := by show r.last + 1 = _; simp [XSt.put, h.last]
  ver1 := fun i hi hl => by
    have hi : i < x.ps.length + 1 := by simpa [XSt.put] using hi
    show Z.mget ((x.put c).pa i) (Z.mput c (r.last + 1) r.ver) = _
    rw [Z.mget_mput]
    rcases Nat.lt_or_ge i x.ps.length with h' | h'
    · rw [la_put h'] at hl
      simp only [Bool.and_eq_true, Bool.not_eq_true', decide_eq_false_iff_not] at hl
      rw [pa_put h', if_neg hl.2]
      exact h.ver1 i h' hl.1
    · have e : i = x.ps.length := by omega
      subst e
      rw [pa_put_last, if_pos rfl, h.last]
  ver2 := fun d v hg => by
    have hg : Z.mget d (Z.mput c (r.last + 1) r.ver) = some v := hg
    rw [Z.mget_mput] at hg
    by_cases e : d = c
    · rw [if_pos e] at hg
      cases hg
      exact ⟨x.ps.length, by simp [XSt.put], la_put_last, by rw [pa_put_last, e], by rw [h.last]⟩
    · rw [if_neg e] at hg
      obtain ⟨i, h1, h2, h3, h4⟩ := h.ver2 d v hg
      exact ⟨i, by simp [XSt.put]; omega, by rw [la_put h1, h2, h3]; simp [e], by rw [pa_put h1, h3], h4⟩
  seen := fun d => by
    show (Z.mget d (Z.mput c true r.ev)).isSome = decide (d ∈ x.ps ++ [c])
    rw [Z.mget_mput]
    by_cases e : d = c
    · simp [e]
    · rw [if_neg e, h.seen]; simp [e]
  ever := by
    show (Z.mput c true r.ev).length = evN (x.ps ++ [c]) (x.ps ++ [c]).length
    rw [evN_snoc, Z.len_mput, h.ever]
    have : c ∈ Z.ks r.ev ↔ c ∈ x.ps := by rw [← Z.mget_isSome, h.seen, decide_eq_true_iff]
    by_cases e : c ∈ x.ps
    · rw [if_pos (this.2 e), if_pos e]; rfl
    · rw [if_neg (fun h => e (this.1 h)), if_neg e]
  evt := evT_put h.evt c
  kb := fun d hd => by
    have hd : d ∈ x.ps ++ [c] := hd
    rcases List.mem_append.1 hd with h1 | h1
    · exact h.kb d h1
    · have : d = c := by simpa using h1
      rw [this]; exact hc
theorem rel_some (h : Rel r x) {i : Nat} (hi : i < x.ps.length) (hl : x.la i = true) (hp : x.pa i = c) : Z.mval c 0 r.ver = (i : Int) + 1 := by
  have := h.ver1 i hi hl
  rw [hp] at this
  simp [Z.mval, this]
theorem rel_none (h : Rel r x) (hn : ∀ i, i < x.ps.length → ¬ (x.la i = true ∧ x.pa i = c)) : Z.mval c 0 r.ver = 0 := by
  unfold Z.mval
  cases hg : Z.mget c r.ver with
  | none => rfl
  | some v =>
    obtain ⟨i, h1, h2, h3, _⟩ := h.ver2 c v hg
    exact absurd ⟨h2, h3⟩ (hn i h1)
theorem rel_pos (h : Rel r x) : (Z.mget c r.ver).isSome = decide (0 < Z.mval c 0 r.ver) := by
  unfold Z.mval
  cases hg : Z.mget c r.ver with
  | none => simp
  | some v =>
    obtain ⟨i, _, _, _, h4⟩ := h.ver2 c v hg
    simp only [Option.isSome_some]
    exact (decide_eq_true (by omega)).symm
theorem rel_seen (h : Rel r x) : Z.mval c false r.ev = decide (c ∈ x.ps) := by
  rw [← h.seen c]
  unfold Z.mval
  cases hg : Z.mget c r.ev with
  | none => rfl
  | some b => simp [h.evt c b hg]
/-- the places that are there -/
def LI (x : XSt) (i : Nat) : List Nat := (List.range i).filter x.la
theorem LI_succ (x : XSt) (i : Nat) : LI x (i + 1) = LI x i ++ if x.la i = true then [i] else [] := by
  unfold LI
  rw [List.range_succ, List.filter_append]
  by_cases h : x.la i = true <;> simp [h]
theorem LI_mem {i j : Nat} : j ∈ LI x i ↔ j < i ∧ x.la j = true := by simp [LI]
theorem LI_pre : ∀ {i n : Nat}, i ≤ n → ∃ t, LI x n = LI x i ++ t := by
  intro i n h
  induction n with
  | zero => have : i = 0 := by omega
            subst this; exact ⟨[], by simp⟩
  | succ n ih =>
    rcases Nat.lt_or_ge n i with h' | h'
    · have : i = n + 1 := by omega
      subst this; exact ⟨[], by simp⟩
    · obtain ⟨t, ht⟩ := ih h'
      rw [LI_succ, ht, List.append_assoc]
      exact ⟨_, rfl⟩
theorem LI_at {i n : Nat} (h : i < n) (hl : x.la i = true) : (LI x n)[(LI x i).length]? = some i := by
  obtain ⟨t, ht⟩ := LI_pre (x := x) (i := i + 1) (n := n) h
  rw [ht, LI_succ, if_pos hl, List.append_assoc, List.getElem?_append_right (Nat.le_refl _)]
  simp
theorem fV_pa (h : Rel r x) {i : Nat} (hi : i < x.ps.length) (hl : x.la i = true) : fV r.ver (x.pa i) = (i : Int) + 1 := by
  simp [fV, Z.mval, h.ver1 i hi hl]
theorem sort_LI (ho : r.ok) (h : Rel r x) : sortC r.ver = (LI x x.ps.length).map x.pa := by
  symm
  refine sortC_uniq ho ?_ ?_
  · refine (List.perm_ext_iff_of_nodup ?_ ho.nd).2 fun c => ?_
    · have hn : (LI x x.ps.length).Pairwise (· < ·) := List.Pairwise.filter _ List.pairwise_lt_range
      show List.Pairwise _ _
      rw [List.pairwise_map]
      refine (List.Pairwise.and_mem.1 hn).imp ?_
      rintro i j ⟨hi, hj, hlt⟩ e
      obtain ⟨h1, h2⟩ := LI_mem.1 hi
      obtain ⟨h3, h4⟩ := LI_mem.1 hj
      have e1 := fV_pa h h1 h2
      have e2 := fV_pa h h3 h4
      rw [e] at e1
      omega
    · rw [← Z.mget_isSome, List.mem_map]
      constructor
      · rintro ⟨i, hi, rfl⟩
        obtain ⟨h1, h2⟩ := LI_mem.1 hi
        rw [h.ver1 i h1 h2]; rfl
      · intro hs
        cases hg : Z.mget c r.ver with
        | none => rw [hg] at hs; cases hs
        | some v =>
          obtain ⟨i, h1, h2, h3, _⟩ := h.ver2 c v hg
          exact ⟨i, LI_mem.2 ⟨h1, h2⟩, h3⟩
  · rw [List.pairwise_map]
    have hp : (LI x x.ps.length).Pairwise (· < ·) := List.Pairwise.filter _ List.pairwise_lt_range
    refine (List.Pairwise.and_mem.1 hp).imp ?_
    rintro i j ⟨hi, hj, hlt⟩
    obtain ⟨h1, h2⟩ := LI_mem.1 hi
    obtain ⟨h3, h4⟩ := LI_mem.1 hj
    rw [fV_pa h h1 h2, fV_pa h h3 h4]
    omega
theorem ver_len (ho : r.ok) (h : Rel r x) : r.ver.length = (LI x x.ps.length).length := by
  rw [← sortC_len, sort_LI ho h, List.length_map]
theorem sAt_LI (ho : r.ok) (h : Rel r x) {i : Nat} (hi : i < x.ps.length) (hl : x.la i = true) : sAt r.ver (LI x i).length = x.pa i := by
  unfold sAt
  rw [sort_LI ho h, List.getD, List.getElem?_map, LI_at hi hl]
  rfl
theorem LI_lt {i n : Nat} (h : i < n) (hl : x.la i = true) : (LI x i).length < (LI x n).length := (List.getElem?_eq_some_iff.1 (LI_at h hl)).1
/-- the document's answer in an area -/
def inX (x : XSt) (a : Area) (i : Nat) : List Int := ((LI x i).filter fun j => hasA a (x.pa j)).map fun j : Nat => (j : Int) + 1
theorem inX_succ (x : XSt) (a : Area) (i : Nat) : inX x a (i + 1) = inX x a i ++ if (x.la i && hasA a (x.pa i)) = true then [(i : Int) + 1] else [] := by
  unfold inX
  rw [LI_succ, List.filter_append, List.map_append]
  congr 1
  by_cases h1 : x.la i = true <;> by_cases h2 : hasA a (x.pa i) = true <;> simp [h1, h2]
theorem inX_le (x : XSt) (a : Area) (i : Nat) : (inX x a i).length ≤ i := by
  unfold inX LI
  rw [List.length_map]
  exact Nat.le_trans (List.length_filter_le _ _) (Nat.le_trans (List.length_filter_le _ _) (by simp))
theorem inX_eq (ho : r.ok) (h : Rel r x) (a : Area) : inX x a x.ps.length = inA r.ver a := by
  unfold inX inA
  rw [sort_LI ho h, List.filter_map, List.map_map]
  refine List.map_congr_left fun i hi => ?_
  obtain ⟨h1, h2⟩ := LI_mem.1 (List.mem_filter.1 hi).1
  exact (fV_pa h h1 h2).symm
end
def stepX (x : XSt) (o : OpR) : XSt := if o.kd = 0 ∨ o.kd = 1 then x.put o.cell else if o.kd = 2 then x.drop o.cell else x
def xt (os : List OpR) : Nat → XSt
  | 0 => ⟨[], []⟩
  | i + 1 => stepX (xt os i) (os.getD i OpR.z)
theorem op_ok {os : List OpR} (hos : ∀ o ∈ os, o.Ok) (i : Nat) : (os.getD i OpR.z).Ok := by
  rcases Nat.lt_or_ge i os.length with h | h
  · have e : os.getD i OpR.z = os[i] := by simp [List.getElem?_eq_getElem h, List.getD]
    rw [e]; exact hos _ (List.getElem_mem h)
  · have e : os.getD i OpR.z = OpR.z := by simp [h]
    rw [e]; exact ⟨by decide, by decide⟩
theorem xt_rel {os : List OpR} (hos : ∀ o ∈ os, o.Ok) : ∀ i, i ≤ 60 → Rel (rt os i) (xt os i)
  | 0, _ => rel_z
  | i + 1, hi => by
    have h1 := xt_rel hos i (by omega)
    have h2 := (rt_ok hos i (by omega)).1
    simp only [rt, xt, stepT, stepX]
    split
    · exact rel_put h1 (op_ok hos i)
    · split
      · exact rel_drop h2 h1
      · exact h1
end Go.Proofs.Ytleofndjeekalaa
