/- Token: TokenEnds in plain words. -/
import Derived.Test.YtjilnmjjehkidaaT4
import Derived.Test.YtjilnmjjehkidaaZr
namespace Go.Proofs.Ytjilnmjjehkidaa
open Go Go.RowKit
structure OpT where
  k : Int
  p : Int
  t : Int
  n : Int
def OpT.c (o : OpT) : List Value := [.int .i64 o.k, .int .i64 o.p, .int .u64 o.t, .int .i64 o.n]
def OpT.z : OpT := ⟨0, 0, 0, 0⟩
theorem OpT.len (o : OpT) : o.c.length = 4 := rfl
structure ES where
  t : Tab
  bm : HM
  pm : HM
  now : Int
def stepE (s : ES) (o : OpT) : ES :=
  if o.k = 0 ∨ o.k = 1 then (if s.t.openE o.t (s.now + msk o.n 255) = 0 then ⟨s.t.openT o.p o.t (s.now + msk o.n 255), Z.mput o.t (s.now + msk o.n 255) s.bm, Z.mput o.t o.p s.pm, s.now + msk o.n 255⟩ else ⟨s.t.openT o.p o.t (s.now + msk o.n 255), s.bm, s.pm, s.now + msk o.n 255⟩)
  else if o.k = 4 then ⟨s.t.close o.t, Z.mdel o.t s.bm, s.pm, s.now + msk o.n 255⟩
  else ⟨s.t.useT o.t (s.now + msk o.n 255), if s.t.useE o.t (s.now + msk o.n 255) = 0 then s.bm else Z.mdel o.t s.bm, s.pm, s.now + msk o.n 255⟩
def es (os : List OpT) (most idle abs : Int) : Nat → ES
  | 0 => ⟨⟨[], most, idle, abs⟩, [], [], 0⟩
  | k + 1 => stepE (es os most idle abs k) (os.getD k OpT.z)
theorem step_a {s : ES} {o : OpT} (h : o.k = 0 ∨ o.k = 1) (he : s.t.openE o.t (s.now + msk o.n 255) = 0) : stepE s o = ⟨s.t.openT o.p o.t (s.now + msk o.n 255), Z.mput o.t (s.now + msk o.n 255) s.bm, Z.mput o.t o.p s.pm, s.now + msk o.n 255⟩ := by unfold stepE; rw [if_pos h, if_pos he]
theorem step_b {s : ES} {o : OpT} (h : o.k = 0 ∨ o.k = 1) (he : ¬ s.t.openE o.t (s.now + msk o.n 255) = 0) : stepE s o = ⟨s.t.openT o.p o.t (s.now + msk o.n 255), s.bm, s.pm, s.now + msk o.n 255⟩ := by unfold stepE; rw [if_pos h, if_neg he]
theorem step_c {s : ES} {o : OpT} (h : ¬ (o.k = 0 ∨ o.k = 1)) (h4 : o.k = 4) : stepE s o = ⟨s.t.close o.t, Z.mdel o.t s.bm, s.pm, s.now + msk o.n 255⟩ := by unfold stepE; rw [if_neg h, if_pos h4]
theorem step_d {s : ES} {o : OpT} (h : ¬ (o.k = 0 ∨ o.k = 1)) (h4 : ¬ o.k = 4) (he : s.t.useE o.t (s.now + msk o.n 255) = 0) : stepE s o = ⟨s.t.useT o.t (s.now + msk o.n 255), s.bm, s.pm, s.now + msk o.n 255⟩ := by unfold stepE; rw [if_neg h, if_neg h4, if_pos he]
theorem step_e {s : ES} {o : OpT} (h : ¬ (o.k = 0 ∨ o.k = 1)) (h4 : ¬ o.k = 4) (he : ¬ s.t.useE o.t (s.now + msk o.n 255) = 0) : stepE s o = ⟨s.t.useT o.t (s.now + msk o.n 255), Z.mdel o.t s.bm, s.pm, s.now + msk o.n 255⟩ := by unfold stepE; rw [if_neg h, if_neg h4, if_neg he]
structure EI (s : ES) (most idle abs : Int) (k : Nat) : Prop where
  hmost : s.t.most = most
  hidle : s.t.idle = idle
  habs : s.t.abs = abs
  nd : (Z.ks s.t.m).Nodup
  ndb : (Z.ks s.bm).Nodup
  len : (s.t.m.length : Int) ≤ most
  lek : s.t.m.length ≤ k
  now0 : 0 ≤ s.now
  now1 : s.now ≤ 255 * k
  link : ∀ q u, Z.mget q s.t.m = some u → Z.mget q s.bm = some u.b ∧ Z.mget q s.pm = some u.p ∧ (0 ≤ u.b ∧ u.b ≤ s.now) ∧ (0 ≤ u.l ∧ u.l ≤ s.now)
  bnd : ∀ q v, Z.mget q s.bm = some v → 0 ≤ v ∧ v ≤ s.now
theorem EI.ok {s : ES} {most idle abs : Int} {k : Nat} (h : EI s most idle abs k) (hk : k ≤ 1000) : s.t.ok := ⟨h.nd, by have := h.lek; omega⟩
theorem mget_sweep {t : Tab} {q now : Int} {u : Sess} (hn : (Z.ks t.m).Nodup) (h : Z.mget q (t.sweep now).m = some u) : Z.mget q t.m = some u := by
  unfold Tab.sweep at h
  rw [Z.mget_filter hn] at h
  cases hq : Z.mget q t.m with
  | none => rw [hq] at h; cases h
  | some s => rw [hq] at h; simp at h; rw [h.2]
theorem stepE_EI {s : ES} {o : OpT} {most idle abs : Int} {k : Nat} (h : EI s most idle abs k) (h1 : 0 ≤ most) : EI (stepE s o) most idle abs (k + 1) := by
  have hb := and_bd o.n 255 (by decide) (by decide)
  have hb' : 0 ≤ msk o.n 255 ∧ msk o.n 255 ≤ 255 := hb
  obtain ⟨N, hN⟩ : ∃ N, s.now + msk o.n 255 = N := ⟨_, rfl⟩
  have e0 := h.now0; have e1 := h.now1
  have hlnk : ∀ q u, Z.mget q s.t.m = some u → Z.mget q s.bm = some u.b ∧ Z.mget q s.pm = some u.p ∧ (0 ≤ u.b ∧ u.b ≤ N) ∧ (0 ≤ u.l ∧ u.l ≤ N) := fun q u hq => by
    obtain ⟨a, b, c, d⟩ := h.link q u hq
    exact ⟨a, b, by omega, by omega⟩
  have hbn : ∀ q v, Z.mget q s.bm = some v → 0 ≤ v ∧ v ≤ N := fun q v hq => by have := h.bnd q v hq; omega
  have hswl := sweep_len (t := s.t) (now := N)
  have hl := h.len; have hlk := h.lek
  have hsn : (Z.ks (s.t.sweep N).m).Nodup := Z.nodup_filter h.nd
  unfold stepE
  rw [hN]
  split
  · by_cases he : s.t.openE o.t N = 0
    · rw [if_pos he]
      have hT : s.t.openT o.p o.t N = { s.t with m := Z.mput o.t ⟨o.p, N, N⟩ (s.t.sweep N).m } := by unfold Tab.openT; rw [if_pos he]
      have hcap : ¬ ((s.t.sweep N).m.length : Int) = s.t.most := fun hc => by
        unfold Tab.openE at he
        rw [if_pos hc] at he
        split at he <;> cases he
      rw [h.hmost] at hcap
      rw [hT]
      refine ⟨h.hmost, h.hidle, h.habs, Z.nodup_mput hsn, Z.nodup_mput h.ndb, ?_, ?_, by show 0 ≤ N; omega, by show N ≤ 255 * ((k + 1 : Nat) : Int); omega, fun q u hq => ?_, fun q v hq => ?_⟩
      · show ((Z.mput _ _ _).length : Int) ≤ most
        rw [Z.len_mput]; split <;> omega
      · show (Z.mput _ _ _).length ≤ k + 1
        rw [Z.len_mput]; split <;> omega
      · replace hq : Z.mget q (Z.mput o.t ⟨o.p, N, N⟩ (s.t.sweep N).m) = some u := hq
        show Z.mget q (Z.mput o.t N s.bm) = some u.b ∧ Z.mget q (Z.mput o.t o.p s.pm) = some u.p ∧ _
        rw [Z.mget_mput] at hq
        rw [Z.mget_mput, Z.mget_mput]
        by_cases e : q = o.t
        · rw [if_pos e] at hq ⊢
          rw [if_pos e]
          cases hq
          exact ⟨rfl, rfl, by show 0 ≤ N ∧ N ≤ N; omega, by show 0 ≤ N ∧ N ≤ N; omega⟩
        · rw [if_neg e] at hq ⊢
          rw [if_neg e]
          exact hlnk q u (mget_sweep h.nd hq)
      · replace hq : Z.mget q (Z.mput o.t N s.bm) = some v := hq
        rw [Z.mget_mput] at hq
        split at hq
        · cases hq; show 0 ≤ N ∧ N ≤ N; omega
        · exact hbn q v hq
    · rw [if_neg he]
      have hT : s.t.openT o.p o.t N = s.t.sweep N := by unfold Tab.openT; rw [if_neg he]
      rw [hT]
      exact ⟨h.hmost, h.hidle, h.habs, hsn, h.ndb, by show ((s.t.sweep N).m.length : Int) ≤ most; omega, by show (s.t.sweep N).m.length ≤ k + 1; omega, by show 0 ≤ N; omega, by show N ≤ 255 * ((k + 1 : Nat) : Int); omega, fun q u hq => hlnk q u (mget_sweep h.nd hq), hbn⟩
  · split
    · have hd := (Z.sub_mdel (k := o.t) (m := s.t.m)).length_le
      refine ⟨h.hmost, h.hidle, h.habs, Z.nodup_mdel h.nd, Z.nodup_mdel h.ndb, by show ((Z.mdel o.t s.t.m).length : Int) ≤ most; omega, by show (Z.mdel o.t s.t.m).length ≤ k + 1; omega, by show 0 ≤ N; omega, by show N ≤ 255 * ((k + 1 : Nat) : Int); omega, fun q u hq => ?_, fun q v hq => ?_⟩
      · replace hq : Z.mget q (Z.mdel o.t s.t.m) = some u := hq
        show Z.mget q (Z.mdel o.t s.bm) = some u.b ∧ _
        rw [Z.mget_mdel h.nd] at hq
        rw [Z.mget_mdel h.ndb]
        split at hq
        · cases hq
        · rename_i e; rw [if_neg e]; exact hlnk q u hq
      · replace hq : Z.mget q (Z.mdel o.t s.bm) = some v := hq
        rw [Z.mget_mdel h.ndb] at hq
        split at hq
        · cases hq
        · exact hbn q v hq
    · cases hh : s.t.has o.t N with
      | none =>
        obtain ⟨u1, _, u3⟩ := use_none hh
        rw [u1, u3]
        simp only [show ¬ ((41 : Int) = 0) by decide, if_false]
        have hd := (Z.sub_mdel (k := o.t) (m := s.t.m)).length_le
        refine ⟨h.hmost, h.hidle, h.habs, Z.nodup_mdel h.nd, Z.nodup_mdel h.ndb, by show ((Z.mdel o.t s.t.m).length : Int) ≤ most; omega, by show (Z.mdel o.t s.t.m).length ≤ k + 1; omega, by show 0 ≤ N; omega, by show N ≤ 255 * ((k + 1 : Nat) : Int); omega, fun q u hq => ?_, fun q v hq => ?_⟩
        · replace hq : Z.mget q (Z.mdel o.t s.t.m) = some u := hq
          show Z.mget q (Z.mdel o.t s.bm) = some u.b ∧ _
          rw [Z.mget_mdel h.nd] at hq
          rw [Z.mget_mdel h.ndb]
          split at hq
          · cases hq
          · rename_i e; rw [if_neg e]; exact hlnk q u hq
        · replace hq : Z.mget q (Z.mdel o.t s.bm) = some v := hq
          rw [Z.mget_mdel h.ndb] at hq
          split at hq
          · cases hq
          · exact hbn q v hq
      | some u0 =>
        obtain ⟨u1, _, u3⟩ := use_some hh
        rw [u1, u3]
        simp only [if_true]
        have hm : Z.mget o.t s.t.m = some u0 := by
          unfold Tab.has at hh
          split at hh
          · cases hh
          · rename_i s' hs'; split at hh
            · cases hh
            · cases hh; exact hs'
        have hmem : o.t ∈ Z.ks s.t.m := Z.mget_isSome.1 (by rw [hm]; rfl)
        refine ⟨h.hmost, h.hidle, h.habs, Z.nodup_mput h.nd, h.ndb, ?_, ?_, by show 0 ≤ N; omega, by show N ≤ 255 * ((k + 1 : Nat) : Int); omega, fun q u hq => ?_, hbn⟩
        · show ((Z.mput _ _ _).length : Int) ≤ most
          rw [Z.len_mput, if_pos hmem]; omega
        · show (Z.mput _ _ _).length ≤ k + 1
          rw [Z.len_mput, if_pos hmem]; omega
        · replace hq : Z.mget q (Z.mput o.t { u0 with l := N } s.t.m) = some u := hq
          rw [Z.mget_mput] at hq
          split at hq
          · rename_i e
            cases hq; subst e
            obtain ⟨a, b, c, d⟩ := hlnk _ u0 hm
            exact ⟨a, b, c, by show 0 ≤ N ∧ N ≤ N; omega⟩
          · exact hlnk q u hq
theorem es_EI (os : List OpT) {most idle abs : Int} (h1 : 0 ≤ most) : ∀ k, EI (es os most idle abs k) most idle abs k
  | 0 => ⟨rfl, rfl, rfl, List.nodup_nil, List.nodup_nil, by simpa [es] using h1, by simp [es], by simp [es], by simp [es], by simp [es, Z.mget], by simp [es, Z.mget]⟩
  | k + 1 => stepE_EI (es_EI os h1 k) h1
theorem EI.use {s : ES} {most idle abs : Int} {k : Nat} {q N : Int} (h : EI s most idle abs k) (hk : k ≤ 1000) (hN : s.now ≤ N ∧ N ≤ 1000000) (he : s.t.useE q N = 0) : (Z.mget q s.bm).isSome = true ∧ s.t.useP q N = Z.mval q 0 s.pm ∧ ¬ abs ≤ N - Z.mval q 0 s.bm := by
  cases hh : s.t.has q N with
  | none => obtain ⟨_, _, u3⟩ := use_none hh; rw [u3] at he; cases he
  | some u0 =>
    obtain ⟨_, u2, _⟩ := use_some hh
    have hm : Z.mget q s.t.m = some u0 ∧ s.t.ended u0 N = false := by
      unfold Tab.has at hh
      split at hh
      · cases hh
      · rename_i s' hs'; split at hh
        · cases hh
        · rename_i hne; cases hh; exact ⟨hs', by simpa using hne⟩
    obtain ⟨a, b, c, d⟩ := h.link q u0 hm.1
    have e0 := h.now0
    refine ⟨by rw [a]; rfl, by rw [u2]; unfold Z.mval; rw [b], ?_⟩
    have hg := hm.2
    unfold Tab.ended ended at hg
    rw [Bool.or_eq_false_iff] at hg
    have hg2 := hg.2
    rw [gone_le (by omega) (by omega), h.habs] at hg2
    unfold Z.mval; rw [a]
    simpa using hg2
theorem EI.bval {s : ES} {most idle abs : Int} {k : Nat} {q : Int} (h : EI s most idle abs k) : 0 ≤ Z.mval q 0 s.bm ∧ Z.mval q 0 s.bm ≤ s.now := by
  unfold Z.mval
  cases hq : Z.mget q s.bm with
  | none => exact ⟨by simp, h.now0⟩
  | some v => exact h.bnd q v hq
theorem EI.end_ {s : ES} {most idle abs : Int} {k : Nat} (h : EI s most idle abs k) (hk : k ≤ 60) (hi : 1 ≤ idle ∧ idle ≤ 1125899906842624) (ha : 1 ≤ abs ∧ abs ≤ 1125899906842624) : s.t.sweep (s.now + mx idle abs) = { s.t with m := [] } := by
  have hm := mx_bd idle abs
  have e0 := h.now0; have e1 := h.now1
  unfold Tab.sweep
  congr 1
  refine List.filter_eq_nil_iff.2 fun p hp => ?_
  obtain ⟨q, u⟩ := p
  obtain ⟨_, _, c, d⟩ := h.link q u (Z.mget_of_mem h.nd hp)
  have : s.t.ended u (s.now + mx idle abs) = true := by
    unfold Tab.ended
    rw [h.hidle]
    exact ended_l (by omega) (by omega) (by omega)
  simp [this]
theorem right_facts {a b c : Int} (h : rightB a b c = true) : (1 ≤ a ∧ a ≤ 64) ∧ (1 ≤ b ∧ b ≤ 1125899906842624) ∧ (1 ≤ c ∧ c ≤ 1125899906842624) ∧ spanB b = true ∧ spanB c = true := by
  unfold rightB at h
  simp only [Bool.and_eq_true, decide_eq_true_eq] at h
  obtain ⟨⟨⟨h1, h2⟩, h3⟩, h4⟩ := h
  have h5 := h3; have h6 := h4
  simp only [spanB, Bool.and_eq_true, decide_eq_true_eq] at h5 h6
  exact ⟨⟨h1, h2⟩, h5, h6, h3, h4⟩
end Go.Proofs.Ytjilnmjjehkidaa
namespace Go.Proofs.Ytjilnmjjehkidaa
open Go Go.RowKit
theorem step_now {s : ES} {o : OpT} : (stepE s o).now = s.now + msk o.n 255 := by
  unfold stepE
  by_cases h : o.k = 0 ∨ o.k = 1
  · rw [if_pos h]; by_cases h2 : s.t.openE o.t (s.now + msk o.n 255) = 0
    · rw [if_pos h2]
    · rw [if_neg h2]
  · rw [if_neg h]; by_cases h2 : o.k = 4
    · rw [if_pos h2]
    · rw [if_neg h2]
theorem slc_op {os : List OpT} {i : Nat} (h : i < os.length) : Z.slc (os.flatMap OpT.c) (i * 4) 4 = some (os.getD i OpT.z).c := by
  have := Z.slc_flat OpT.len (xs := os) (i := i) (x := os.getD i OpT.z) [] (by simp [List.getElem?_eq_getElem h, List.getD])
  simpa using this
theorem is_op (cs : List Value) (h : Z.parts [Z.IsInt .i64, Z.IsInt .i64, Z.IsInt .u64, Z.IsInt .i64] cs) : ∃ o : OpT, cs = o.c := by
  obtain ⟨c1, r1, rfl, ⟨k, rfl, _⟩, c2, r2, rfl, ⟨p, rfl, _⟩, c3, r3, rfl, ⟨t, rfl, _⟩, c4, r4, rfl, ⟨n, rfl, _⟩, h5⟩ := h
  have h5 : r4 = [] := h5
  subst h5
  exact ⟨⟨k, p, t, n⟩, rfl⟩
end Go.Proofs.Ytjilnmjjehkidaa
