/- Rows: areas as they are handed in; the steps of RowsTwice and RowsPlays. -/
import Derived.Test.YtleofndjeekalaaC5
import Derived.Test.YtleofndjeekalaaZs
namespace Go.Proofs.Ytleofndjeekalaa
open Go Go.RowKit
theorem wf_u32 {n : Int} (h : (Lit.int .u32 n).wf = true) : 0 ≤ n ∧ n < 4294967296 := by
  simp [Lit.wf, IntKind.min, IntKind.max, IntKind.bits, IntKind.signed] at h
  omega
def SpanOk (s : Span) : Prop := (0 ≤ s.lo ∧ s.lo < 4294967296) ∧ (0 ≤ s.hi ∧ s.hi < 4294967296)
abbrev PSpan : List Value → Prop := Z.parts [Z.IsInt .u32, Z.IsInt .u32]
theorem is_span (cs : List Value) (h : PSpan cs) : ∃ s : Span, cs = s.c := by
  obtain ⟨c1, r1, rfl, ⟨l, rfl, _⟩, c2, r2, rfl, ⟨k, rfl, _⟩, h3⟩ := h
  have h3 : r2 = [] := h3
  subst h3
  exact ⟨⟨l, k⟩, rfl⟩
theorem span_ok {s : Span} (h : PSpan s.c) : SpanOk s := by
  obtain ⟨c1, r1, e1, ⟨l, rfl, w1⟩, c2, r2, rfl, ⟨k, rfl, w2⟩, _⟩ := h
  simp [Span.c] at e1
  obtain ⟨rfl, rfl, _⟩ := e1
  exact ⟨wf_u32 w1, wf_u32 w2⟩
structure AreaOk (a : Area) : Prop where
  len : a.length ≤ maxLen
  each : ∀ i, (a.getD i []).length ≤ maxLen
  sp : ∀ i, ∀ s ∈ a.getD i [], SpanOk s
theorem each_area {Q : Value → List Span → Prop} : ∀ xs : List Value, (∀ x ∈ xs, ∃ s, Q x s) → ∃ a : Area, a.length = xs.length ∧ ∀ i, i < xs.length → Q (xs.getD i nilS) (a.getD i [])
  | [], _ => ⟨[], rfl, fun i hi => by cases hi⟩
  | x :: xs, h => by
    obtain ⟨s, hs⟩ := h x (by simp)
    obtain ⟨a, ha, hq⟩ := each_area xs fun y hy => h y (by simp [hy])
    refine ⟨s :: a, by simp [ha], fun i hi => ?_⟩
    cases i with
    | zero => exact hs
    | succ i =>
      have := hq i (by simpa using hi)
      simpa using this
theorem area_ro {w : World} {p : Option Addr} {n cap : Nat} (h : Z.IsSliceM w 1 (Z.IsSliceM w 2 PSpan) [.slice p n cap]) :
    ∃ a : Area, a.length = n ∧ AreaRo w (.slice p n cap) a ∧ AreaOk a := by
  obtain ⟨xs, h1, h2, h3, h4⟩ := Z.slice_roM (α := Value) (c := fun v => [v]) (fun cs hc => by
    obtain ⟨p, len, cap, e, _⟩ := hc
    exact ⟨_, e⟩) h
  have hfm : xs.flatMap (fun v => [v]) = xs := by simp
  rw [hfm] at h4
  obtain ⟨a, ha, hq⟩ := each_area (Q := fun v s => SlRo w v s ∧ s.length ≤ maxLen ∧ ∀ x ∈ s, SpanOk x) xs fun x hx => by
    have hx3 := h3 x hx
    obtain ⟨p', len', cap', e, hm, hr⟩ := hx3
    have e' : x = .slice p' len' cap' := by simpa using e
    subst e'
    obtain ⟨ss, g1, g2, g3, g4⟩ := Z.slice_roM is_span (h3 _ hx)
    exact ⟨ss, ⟨p', cap', by rw [g1], fun h0 => g4 (by omega)⟩, by omega, fun s hs => span_ok (g3 s hs)⟩
  have hall : ∀ i, SlRo w (xs.getD i nilS) (a.getD i []) ∧ (a.getD i []).length ≤ maxLen ∧ ∀ x ∈ a.getD i [], SpanOk x := by
    intro i
    rcases Nat.lt_or_ge i xs.length with hi | hi
    · exact hq i hi
    · have e1 : xs.getD i nilS = nilS := by simp [hi]
      have e2 : a.getD i [] = [] := by simp [ha, hi]
      rw [e1, e2]
      exact ⟨SlRo.nil w, by simp, by simp⟩
  have hlen : a.length = n := by omega
  refine ⟨a, hlen, ⟨p, cap, xs, by rw [hlen], by omega, fun h0 => h4 (by omega), fun i => (hall i).1⟩, ⟨by omega, fun i => (hall i).2.1, fun i => (hall i).2.2⟩⟩
def fewA (a : Area) : Bool := (a.all fun s => decide (s.length ≤ 20)) && decide (a.length ≤ 20)
theorem fewA_nb {a : Area} (h : fewA a = true) (i : Nat) : (a.getD i []).length ≤ 140737488355328 := by
  simp only [fewA, Bool.and_eq_true, List.all_eq_true, decide_eq_true_eq] at h
  rcases Nat.lt_or_ge i a.length with hi | hi
  · have e : a.getD i [] = a[i] := by simp [List.getElem?_eq_getElem hi, List.getD]
    rw [e]
    have := h.1 a[i] (List.getElem_mem hi)
    omega
  · simp [hi]
theorem all_drop {a : Area} {i : Nat} (h : i < a.length) : ((a.drop i).all fun s => decide (s.length ≤ 20)) = (decide ((a.getD i []).length ≤ 20) && (a.drop (i + 1)).all fun s => decide (s.length ≤ 20)) := by
  conv => lhs; rw [List.drop_eq_getElem_cons h]
  rw [List.all_cons]
  simp [List.getElem?_eq_getElem h, List.getD]
def OpR.Ok (o : OpR) : Prop := 0 ≤ o.k ∧ o.k < 4294967296
theorem opR_ok {o : OpR} (h : Z.parts [Z.IsInt .i64, Z.parts [Z.IsInt .i64, Z.IsInt .u32]] o.c) : o.Ok := by
  obtain ⟨c1, r1, e1, ⟨kd, rfl, _⟩, c2, r2, rfl, ⟨d1, s1, rfl, ⟨l, rfl, _⟩, d2, s2, rfl, ⟨k, rfl, w⟩, _⟩, _⟩ := h
  simp [OpR.c] at e1
  obtain ⟨_, _, e3, _⟩ := e1
  have := wf_u32 w
  unfold OpR.Ok
  rw [e3]; exact this
def stepT (r : RSt) (o : OpR) : RSt := if o.kd = 0 ∨ o.kd = 1 then r.put o.cell else if o.kd = 2 then r.drop o.cell else r
def rt (os : List OpR) : Nat → RSt
  | 0 => RSt.z
  | i + 1 => stepT (rt os i) (os.getD i OpR.z)
def KB (r : RSt) : Prop := ∀ c ∈ Z.ks r.ver, 0 ≤ c.k ∧ c.k < 4294967296
theorem kb_put {r : RSt} (h : KB r) {c : Cell} (hc : 0 ≤ c.k ∧ c.k < 4294967296) : KB (r.put c) := fun a ha => by
  have := Z.mget_isSome.2 ha
  simp only [RSt.put, Z.mget_mput] at this
  by_cases e : a = c
  · rw [e]; exact hc
  · rw [if_neg e] at this
    exact h a (Z.mget_isSome.1 this)
theorem kb_drop {r : RSt} (hr : r.ok) (h : KB r) {c : Cell} : KB (r.drop c) := fun a ha => by
  have := Z.mget_isSome.2 ha
  simp only [RSt.drop, Z.mget_mdel hr.nd] at this
  by_cases e : a = c
  · rw [if_pos e] at this; cases this
  · rw [if_neg e] at this
    exact h a (Z.mget_isSome.1 this)
theorem rt_ok {os : List OpR} (hos : ∀ o ∈ os, o.Ok) : ∀ i, i ≤ 60 → (rt os i).ok ∧ (rt os i).last ≤ i ∧ KB (rt os i)
  | 0, _ => ⟨RSt.z_ok, by simp [rt, RSt.z], fun c h => by simp [rt, RSt.z, Z.ks] at h⟩
  | i + 1, hi => by
    obtain ⟨h1, h2, h3⟩ := rt_ok hos i (by omega)
    have hc : (os.getD i OpR.z).Ok := by
      rcases Nat.lt_or_ge i os.length with h | h
      · have e : os.getD i OpR.z = os[i] := by simp [List.getElem?_eq_getElem h, List.getD]
        rw [e]; exact hos _ (List.getElem_mem h)
      · have e : os.getD i OpR.z = OpR.z := by simp [h]
        rw [e]; exact ⟨by decide, by decide⟩
    simp only [rt, stepT]
    split
    · exact ⟨RSt.put_ok h1 (by omega), by show (rt os i).last + 1 ≤ _; omega, kb_put h3 hc⟩
    · split
      · exact ⟨RSt.drop_ok h1, by show (rt os i).last ≤ _; omega, kb_drop h1 h3⟩
      · exact ⟨h1, by omega, h3⟩
theorem rt_put {os : List OpR} {i : Nat} (h : (os.getD i OpR.z).kd = 0 ∨ (os.getD i OpR.z).kd = 1) : (rt os i).put ⟨(os.getD i OpR.z).l, (os.getD i OpR.z).k⟩ = rt os (i + 1) := by
  simp only [rt, stepT, if_pos h]; rfl
theorem rt_drop {os : List OpR} {i : Nat} (h : ¬ ((os.getD i OpR.z).kd = 0 ∨ (os.getD i OpR.z).kd = 1)) (h2 : (os.getD i OpR.z).kd = 2) : (rt os i).drop ⟨(os.getD i OpR.z).l, (os.getD i OpR.z).k⟩ = rt os (i + 1) := by
  simp only [rt, stepT, if_neg h, if_pos h2]; rfl
theorem rt_same {os : List OpR} {i : Nat} (h : ¬ ((os.getD i OpR.z).kd = 0 ∨ (os.getD i OpR.z).kd = 1)) (h2 : ¬ (os.getD i OpR.z).kd = 2) : rt os i = rt os (i + 1) := by
  simp only [rt, stepT, if_neg h, if_neg h2]
theorem inA_len {r : RSt} {a : Area} : (inA r.ver a).length = ((Z.ks r.ver).filter (hasA a)).length := by
  unfold inA
  rw [List.length_map]
  exact ((isB_spec (fV r.ver) (Z.ks r.ver)).1.filter (hasA a)).length_eq
theorem inA_up {r : RSt} (h : r.ok) {a : Area} : (inA r.ver a).Pairwise (· < ·) := by
  unfold inA
  rw [List.pairwise_map]
  refine List.Pairwise.filter _ ?_
  have h1 := (isB_spec (fV r.ver) (Z.ks r.ver)).2
  have hp := (isB_spec (fV r.ver) (Z.ks r.ver)).1
  have h2 : (sortC r.ver).Nodup := hp.nodup_iff.2 h.nd
  have h3 : (sortC r.ver).Pairwise fun x y => x ≠ y := h2
  refine (List.Pairwise.and_mem.1 (h1.and h3)).imp ?_
  rintro x y ⟨hx, hy, hle, hne⟩
  rcases Int.lt_or_le (fV r.ver x) (fV r.ver y) with hlt | hge
  · exact hlt
  · exact absurd (fV_inj h (hp.subset hx) (hp.subset hy) (by omega)) hne
theorem inA_step {r : RSt} (h : r.ok) {a : Area} {i : Nat} (h0 : 0 < i) (hi : i < (inA r.ver a).length) : (inA r.ver a).getD (i - 1) 0 < (inA r.ver a).getD i 0 := by
  have := List.pairwise_iff_getElem.1 (inA_up h (a := a)) (i - 1) i (by omega) hi (by omega)
  simpa [List.getD, List.getElem?_eq_getElem hi, List.getElem?_eq_getElem (show i - 1 < (inA r.ver a).length by omega)] using this
end Go.Proofs.Ytleofndjeekalaa
