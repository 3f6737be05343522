/- Rows: the plain words of the steps, and of what is dropped and put again. -/
import Derived.Test.YtleofndjeekalaaC4
namespace Go.Proofs.Ytleofndjeekalaa
open Go Go.RowKit
structure OpR where
  kd : Int
  l : Int
  k : Int
def OpR.c (o : OpR) : List Value := [.int .i64 o.kd, .int .i64 o.l, .int .u32 o.k]
def OpR.z : OpR := ⟨0, 0, 0⟩
theorem OpR.len (o : OpR) : o.c.length = 3 := rfl
def OpR.cell (o : OpR) : Cell := ⟨o.l, o.k⟩
theorem slc_op {os : List OpR} {i : Nat} (h : i < os.length) : Z.slc (os.flatMap OpR.c) (i * 3) 3 = some [.int .i64 (os.getD i OpR.z).kd, .int .i64 (os.getD i OpR.z).l, .int .u32 (os.getD i OpR.z).k] := by
  have := Z.slc_flat OpR.len (xs := os) (i := i) (x := os.getD i OpR.z) [] (by simp [List.getElem?_eq_getElem h, List.getD])
  rw [List.append_nil] at this
  exact this
theorem is_cell (cs : List Value) (h : Z.parts [Z.IsInt .i64, Z.IsInt .u32] cs) : ∃ l k, cs = [.int .i64 l, .int .u32 k] := by
  obtain ⟨c1, r1, rfl, ⟨l, rfl, _⟩, c2, r2, rfl, ⟨k, rfl, _⟩, h3⟩ := h
  have h3 : r2 = [] := h3
  subst h3
  exact ⟨l, k, rfl⟩
theorem is_opR (cs : List Value) (h : Z.parts [Z.IsInt .i64, Z.parts [Z.IsInt .i64, Z.IsInt .u32]] cs) : ∃ o : OpR, cs = o.c := by
  obtain ⟨c1, r1, rfl, ⟨kd, rfl, _⟩, c2, r2, rfl, h2, h3⟩ := h
  obtain ⟨l, k, rfl⟩ := is_cell _ h2
  have h3 : r2 = [] := h3
  subst h3
  exact ⟨⟨kd, l, k⟩, rfl⟩
theorem agg_of {v : Value} {l k : Int} (h : v.cells.toList = [.int .i64 l, .int .u32 k]) : v = .agg #[.int .i64 l, .int .u32 k] := by
  cases v with
  | agg xs =>
    have : xs.toList = [.int .i64 l, .int .u32 k] := h
    congr 1
    exact Array.toList_inj.1 this
  | _ => simp [Value.cells] at h
def stepR (r : RSt) (o : OpR) : RSt := if o.kd = 2 then r.drop o.cell else r.put o.cell
def rs (os : List OpR) : Nat → RSt
  | 0 => RSt.z
  | i + 1 => stepR (rs os i) (os.getD i OpR.z)
def EvT (r : RSt) : Prop := ∀ c b, Z.mget c r.ev = some b → b = true
theorem evT_put {r : RSt} (h : EvT r) (c : Cell) : EvT (r.put c) := fun a b ha => by
  simp only [RSt.put, Z.mget_mput] at ha
  split at ha
  · cases ha; rfl
  · exact h a b ha
theorem rs_ok (os : List OpR) : ∀ i, i ≤ 60 → (rs os i).ok ∧ (rs os i).last ≤ i ∧ EvT (rs os i)
  | 0, _ => ⟨RSt.z_ok, by simp [rs, RSt.z], fun c b h => by simp [rs, RSt.z, Z.mget] at h⟩
  | i + 1, hi => by
    obtain ⟨h1, h2, h3⟩ := rs_ok os i (by omega)
    simp only [rs, stepR]
    split
    · exact ⟨RSt.drop_ok h1, by show (rs os i).last ≤ _; omega, h3⟩
    · exact ⟨RSt.put_ok h1 (by omega), by show (rs os i).last + 1 ≤ _; omega, evT_put h3 _⟩
theorem rs_drop {os : List OpR} {i : Nat} (h : (os.getD i OpR.z).kd = 2) : (rs os i).drop ⟨(os.getD i OpR.z).l, (os.getD i OpR.z).k⟩ = rs os (i + 1) := by
  simp only [rs, stepR, if_pos h]; rfl
theorem rs_put {os : List OpR} {i : Nat} (h : ¬ (os.getD i OpR.z).kd = 2) : (rs os i).put ⟨(os.getD i OpR.z).l, (os.getD i OpR.z).k⟩ = rs os (i + 1) := by
  simp only [rs, stepR, if_neg h]; rfl
section
variable {r : RSt} {c x : Cell}
theorem sAt_get (h : r.ok) {i : Nat} (hi : i < r.ver.length) : Z.mget (sAt r.ver i) r.ver = some (fV r.ver (sAt r.ver i)) := by
  have h' : i < (sortC r.ver).length := by rw [sortC_len]; exact hi
  have hm : sAt r.ver i ∈ sortC r.ver := by
    have e : sAt r.ver i = (sortC r.ver)[i] := by simp [sAt, List.getElem?_eq_getElem h', List.getD]
    rw [e]; exact List.getElem_mem h'
  have hk := (isB_spec (fV r.ver) (Z.ks r.ver)).1.subset hm
  have := Z.mget_isSome.2 hk
  cases hg : Z.mget (sAt r.ver i) r.ver with
  | none => rw [hg] at this; cases this
  | some v => simp [fV, Z.mval, hg]
def again (r : RSt) (c : Cell) : RSt := ((r.drop c).put c).put c
theorem again_other (h : r.ok) (hx : ¬ x = c) : Z.mget x (again r c).ver = Z.mget x r.ver := by
  simp only [again, RSt.put, RSt.drop, Z.mget_mput, if_neg hx, Z.mget_mdel h.nd]
theorem again_self : Z.mget c (again r c).ver = some (r.last + 1 + 1) := by
  simp only [again, RSt.put, RSt.drop, Z.mget_mput, if_true]
theorem len_again : ∀ m : VM, (Z.ks m).Nodup → ∀ a b : Int, (Z.mput c b (Z.mput c a (Z.mdel c m))).length = if (Z.mget c m).isSome = true then m.length else m.length + 1 := by
  intro m hm a b
  have k1 : c ∈ Z.ks (Z.mput c a (Z.mdel c m)) := Z.mget_isSome.1 (by rw [Z.mget_mput, if_pos rfl]; rfl)
  have k2 : c ∉ Z.ks (Z.mdel c m) := Z.mget_none.1 (by rw [Z.mget_mdel hm, if_pos rfl])
  rw [Z.len_mput, if_pos k1, Z.len_mput, if_neg k2, Z.len_mdel]
  by_cases hk : c ∈ Z.ks m
  · rw [if_pos hk, if_pos (Z.mget_isSome.2 hk)]
    have : 0 < m.length := by
      cases m with
      | nil => simp [Z.ks] at hk
      | cons => simp
    omega
  · rw [if_neg hk, if_neg (fun h => hk (Z.mget_isSome.1 h))]
theorem again_live (h : r.ok) : ((again r c).ver.length : Int) = if (Z.mget c r.ver).isSome = true then (r.ver.length : Int) else r.ver.length + 1 := by
  have := len_again (c := c) r.ver h.nd (r.last + 1) (r.last + 1 + 1)
  simp only [again, RSt.put, RSt.drop]
  rw [this]; split <;> simp
theorem again_ever (hT : EvT r) : ((again r c).ev.length : Int) = if Z.mval c false r.ev = true then (r.ev.length : Int) else r.ev.length + 1 := by
  have e : (Z.mval c false r.ev = true) ↔ c ∈ Z.ks r.ev := by
    rw [← Z.mget_isSome]
    unfold Z.mval
    cases hg : Z.mget c r.ev with
    | none => simp
    | some b => simp [hT c b hg]
  simp only [again, RSt.put, RSt.drop]
  have k1 : c ∈ Z.ks (Z.mput c true r.ev) := Z.mget_isSome.1 (by rw [Z.mget_mput, if_pos rfl]; rfl)
  rw [Z.len_mput, if_pos k1, Z.len_mput]
  by_cases hk : c ∈ Z.ks r.ev
  · rw [if_pos hk, if_pos (e.2 hk)]
  · rw [if_neg hk, if_neg (fun h => hk (e.1 h))]; simp
theorem again_seen : Z.mval c false (again r c).ev = true := by
  simp only [again, RSt.put, RSt.drop, Z.mval, Z.mget_mput, if_true]
end
theorem ss1000 {ver : VM} (h : ver.length ≤ 1000) : ssR ver 1000 = pairsR ver := by
  unfold ssR
  rw [if_neg (by decide), List.take_of_length_le (by rw [pairsR_len]; exact h)]
theorem pairs_fst (ver : VM) : ((pairsR ver).map (·.1)).flatMap Cell.c = (sortC ver).flatMap Cell.c := by
  unfold pairsR; rw [List.map_map]; congr 1; exact List.map_id' _
theorem pairs_snd (ver : VM) : (pairsR ver).map (·.2) = (sortC ver).map (fV ver) := by
  unfold pairsR; rw [List.map_map]; rfl
theorem get_ver {ver : VM} {i : Nat} (sp : List Value) (h : i < ver.length) : (i64s ((sortC ver).map (fV ver)) ++ sp)[i]? = some (.int .i64 (fV ver (sAt ver i))) := by
  have h' : i < (sortC ver).length := by rw [sortC_len]; exact h
  rw [List.getElem?_append_left (by simpa [i64s] using h')]
  simp [i64s, sAt, List.getElem?_eq_getElem h', List.getD]
end Go.Proofs.Ytleofndjeekalaa
