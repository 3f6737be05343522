/- Token: TokenFulls in plain words. -/
import Derived.Test.YtjilnmjjehkidaaT3
namespace Go.Proofs.Ytjilnmjjehkidaa
open Go Go.RowKit
abbrev HM := List (Int × Int)
def fS (p : Int × Int) : Int × Sess := (p.1, ⟨p.2, 0, 0⟩)
def tabH (m0 : Int) (H : HM) : Tab := ⟨H.map fS, m0, 100, 100⟩
theorem mget_fS {q : Int} {H : HM} : Z.mget q (H.map fS) = (Z.mget q H).map fun p => ⟨p, 0, 0⟩ := by
  induction H with
  | nil => rfl
  | cons p H ih => obtain ⟨k, v⟩ := p; simp only [List.map_cons, fS, Z.mget]; split
                   · rfl
                   · exact ih
theorem mput_fS {q p : Int} {H : HM} : Z.mput q ⟨p, 0, 0⟩ (H.map fS) = (Z.mput q p H).map fS := by
  induction H with
  | nil => rfl
  | cons r H ih => obtain ⟨k, v⟩ := r; simp only [List.map_cons, fS, Z.mput]; split
                   · simp [fS]
                   · simp [fS, ih]
theorem mdel_fS {q : Int} {H : HM} : Z.mdel q (H.map fS) = (Z.mdel q H).map fS := by
  induction H with
  | nil => rfl
  | cons r H ih => obtain ⟨k, v⟩ := r; simp only [List.map_cons, fS, Z.mdel]; split
                   · rfl
                   · simp [fS, ih]
theorem ks_fS {H : HM} : Z.ks (H.map fS) = Z.ks H := by simp [Z.ks, fS, Function.comp_def]
theorem sweep_H {m0 : Int} {H : HM} : (tabH m0 H).sweep 0 = tabH m0 H := sweep_none fun q s hs => by
  obtain ⟨p, _, e⟩ := List.mem_map.1 hs
  obtain ⟨rfl, rfl⟩ : p.1 = q ∧ (⟨p.2, 0, 0⟩ : Sess) = s := by simpa [fS] using e
  simp [tabH, Tab.ended, ended, gone_0]
def errH (m0 d : Int) (H : HM) : Int := if d = 0 ∨ (Z.mget d H).isSome = true then 41 else if (H.length : Int) = m0 then 3 else 0
def putH (m0 d i : Int) (H : HM) : HM := if d = 0 ∨ (Z.mget d H).isSome = true then H else if (H.length : Int) = m0 then H else Z.mput d i H
theorem open_H {m0 d i : Int} {H : HM} : (tabH m0 H).openE d 0 = errH m0 d H ∧ (tabH m0 H).openT i d 0 = tabH m0 (putH m0 d i H) := by
  have hm : (Z.mget d ((tabH m0 H).sweep 0).m).isSome = (Z.mget d H).isSome := by rw [sweep_H]; simp [tabH, mget_fS]
  have hl : (((tabH m0 H).sweep 0).m.length : Int) = H.length := by rw [sweep_H]; simp [tabH]
  unfold errH putH
  by_cases h : d = 0 ∨ (Z.mget d H).isSome = true
  · obtain ⟨a, b⟩ := openT_41 (t := tabH m0 H) (p := i) (d := d) (now := 0) (by rw [hm]; exact h)
    rw [if_pos h, if_pos h]; exact ⟨a, b.trans sweep_H⟩
  · have h1 : ¬ d = 0 := fun e => h (.inl e)
    have h2 : (Z.mget d H).isSome = false := by cases e : (Z.mget d H).isSome with | false => rfl | true => exact absurd (.inr e) h
    rw [if_neg h, if_neg h]
    by_cases h3 : (H.length : Int) = m0
    · obtain ⟨a, b⟩ := openT_3 (t := tabH m0 H) (p := i) (d := d) (now := 0) h1 (by rw [hm]; exact h2) (by rw [hl]; exact h3)
      rw [if_pos h3, if_pos h3]; exact ⟨a, b.trans sweep_H⟩
    · obtain ⟨a, b⟩ := openT_0 (t := tabH m0 H) (p := i) (d := d) (now := 0) h1 (by rw [hm]; exact h2) (by rw [hl]; exact h3)
      rw [if_neg h3, if_neg h3]
      refine ⟨a, b.trans ?_⟩
      rw [sweep_H]; simp only [tabH, mput_fS]
theorem errH_a {m0 d : Int} {H : HM} (h : d = 0 ∨ (Z.mget d H).isSome = true) : errH m0 d H = 41 := if_pos h
theorem errH_c {m0 d : Int} {H : HM} (h : ¬ d = 0) (h2 : (Z.mget d H).isSome = false) (h3 : (H.length : Int) = m0) : errH m0 d H = 3 := by
  unfold errH; rw [if_neg (by rw [h2]; simp [h]), if_pos h3]
theorem errH_d {m0 d : Int} {H : HM} (h : ¬ d = 0) (h2 : (Z.mget d H).isSome = false) (h3 : ¬ (H.length : Int) = m0) : errH m0 d H = 0 := by
  unfold errH; rw [if_neg (by rw [h2]; simp [h]), if_neg h3]
theorem putH_a {m0 d i : Int} {H : HM} (h : d = 0 ∨ (Z.mget d H).isSome = true) : putH m0 d i H = H := if_pos h
theorem putH_c {m0 d i : Int} {H : HM} (h : ¬ d = 0) (h2 : (Z.mget d H).isSome = false) (h3 : (H.length : Int) = m0) : putH m0 d i H = H := by
  unfold putH; rw [if_neg (by rw [h2]; simp [h]), if_pos h3]
theorem putH_d {m0 d i : Int} {H : HM} (h : ¬ d = 0) (h2 : (Z.mget d H).isSome = false) (h3 : ¬ (H.length : Int) = m0) : putH m0 d i H = Z.mput d i H := by
  unfold putH; rw [if_neg (by rw [h2]; simp [h]), if_neg h3]
def hN (m0 c3 : Int) (ds : List Int) : Nat → HM
  | 0 => []
  | k + 1 => if msk k 3 = c3 then Z.mdel (ds.getD 0 0) (putH m0 (ds.getD k 0) k (hN m0 c3 ds k)) else putH m0 (ds.getD k 0) k (hN m0 c3 ds k)
theorem hN_t {m0 c3 : Int} {ds : List Int} {k : Nat} (h : msk k 3 = c3) : hN m0 c3 ds (k + 1) = Z.mdel (ds.getD 0 0) (putH m0 (ds.getD k 0) k (hN m0 c3 ds k)) := if_pos h
theorem hN_f {m0 c3 : Int} {ds : List Int} {k : Nat} (h : ¬ msk k 3 = c3) : hN m0 c3 ds (k + 1) = putH m0 (ds.getD k 0) k (hN m0 c3 ds k) := if_neg h
theorem close_H {m0 d : Int} {H : HM} : (tabH m0 H).close d = tabH m0 (Z.mdel d H) := by simp only [Tab.close, tabH, mdel_fS]
theorem some_H {m0 d : Int} {H : HM} : (Z.mget d (tabH m0 H).m).isSome = (Z.mget d H).isSome := by simp [tabH, mget_fS]
theorem putH_ok {m0 d i : Int} {H : HM} (hn : (Z.ks H).Nodup) (hl : (H.length : Int) ≤ m0) : (Z.ks (putH m0 d i H)).Nodup ∧ ((putH m0 d i H).length : Int) ≤ m0 := by
  unfold putH
  split
  · exact ⟨hn, hl⟩
  · split
    · exact ⟨hn, hl⟩
    · refine ⟨Z.nodup_mput hn, ?_⟩
      rw [Z.len_mput]; split <;> omega
theorem hN_ok {m0 c3 : Int} {ds : List Int} (h0 : 0 ≤ m0) : ∀ k, (Z.ks (hN m0 c3 ds k)).Nodup ∧ ((hN m0 c3 ds k).length : Int) ≤ m0
  | 0 => ⟨List.nodup_nil, by simpa [hN] using h0⟩
  | k + 1 => by
    obtain ⟨h1, h2⟩ := hN_ok (c3 := c3) (ds := ds) h0 k
    obtain ⟨h3, h4⟩ := putH_ok (d := ds.getD k 0) (i := k) h1 h2
    unfold hN
    split
    · refine ⟨Z.nodup_mdel h3, ?_⟩
      have := (Z.sub_mdel (k := ds.getD 0 0) (m := putH m0 (ds.getD k 0) k (hN m0 c3 ds k))).length_le
      omega
    · exact ⟨h3, h4⟩
theorem tabH_ok {m0 : Int} {H : HM} (hn : (Z.ks H).Nodup) (hl : (H.length : Int) ≤ m0) (h8 : m0 ≤ 8) : (tabH m0 H).ok := ⟨by show (Z.ks (H.map fS)).Nodup; rw [ks_fS]; exact hn, by simp [tabH]; omega⟩
theorem ss_H {m0 : Int} {H : HM} (hl : (H.length : Int) ≤ 8) : ss (tabH m0 H) 1000 = pairs (tabH m0 H) := by
  unfold ss
  rw [if_neg (by decide)]
  exact List.take_of_length_le (by rw [pairs_len]; simp [tabH]; omega)
theorem kAt_mem {t : Tab} {i : Nat} (h : i < t.m.length) : kAt t i ∈ Z.ks t.m := by
  have h' : i < (sortL (keys t.m)).length := by rw [sort_len]; exact h
  have : kAt t i ∈ sortL (keys t.m) := by
    unfold kAt
    rw [List.getD_eq_getElem?_getD, List.getElem?_eq_getElem h', Option.getD_some]
    exact List.getElem_mem h'
  exact (sortL_spec (keys t.m)).2.subset this
theorem kAt_H {m0 : Int} {H : HM} {i : Nat} (h : i < H.length) : Z.mget (kAt (tabH m0 H) i) H = some (pAt (tabH m0 H) i).2 := by
  have h1 := kAt_mem (t := tabH m0 H) (i := i) (by simpa [tabH] using h)
  rw [show (tabH m0 H).m = H.map fS from rfl, ks_fS, ← Z.mget_isSome] at h1
  obtain ⟨p, hp⟩ := Option.isSome_iff_exists.1 h1
  rw [hp]
  simp only [pAt, Z.mval, show (tabH m0 H).m = H.map fS from rfl, mget_fS, hp, Option.map_some]
theorem kAt_lt {t : Tab} {i : Nat} (hn : (Z.ks t.m).Nodup) (h : i < t.m.length) (h0 : 0 < i) : kAt t (i - 1) < kAt t i := by
  have h' : i < (sortL (keys t.m)).length := by rw [sort_len]; exact h
  have hp := (sortL_spec (keys t.m))
  have hnd : (sortL (keys t.m)).Nodup := hp.2.nodup_iff.2 hn
  have h1 : kAt t (i - 1) = (sortL (keys t.m))[i - 1] := by unfold kAt; rw [List.getD_eq_getElem?_getD, List.getElem?_eq_getElem (by omega), Option.getD_some]
  have h2 : kAt t i = (sortL (keys t.m))[i] := by unfold kAt; rw [List.getD_eq_getElem?_getD, List.getElem?_eq_getElem h', Option.getD_some]
  have h3 := List.pairwise_iff_getElem.1 hp.1 (i - 1) i (by omega) h' (by omega)
  have h4 := List.pairwise_iff_getElem.1 hnd (i - 1) i (by omega) h' (by omega)
  rw [h1, h2]; omega
theorem ks_get {t : Tab} {i : Nat} (h : i < t.m.length) (sp : List Value) : (u64s ((pairs t).map (·.1)) ++ sp)[i]? = some (.int .u64 (kAt t i)) := by
  have h' : i < (pairs t).length := by rw [pairs_len]; exact h
  rw [List.getElem?_append_left (by simpa using h')]
  simp [pairs_get h, pAt]
theorem ps_get {t : Tab} {i : Nat} (h : i < t.m.length) (sp : List Value) : (i64s ((pairs t).map (·.2)) ++ sp)[i]? = some (.int .i64 (pAt t i).2) := by
  have h' : i < (pairs t).length := by rw [pairs_len]; exact h
  rw [List.getElem?_append_left (by simpa using h')]
  simp [pairs_get h]
end Go.Proofs.Ytjilnmjjehkidaa
