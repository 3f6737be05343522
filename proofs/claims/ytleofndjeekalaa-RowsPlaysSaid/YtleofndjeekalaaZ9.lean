/- The closing of a law's row: it answers true, and what lay before lies as it lay. -/
import Derived.Test.YtleofndjeekalaaZ8
import Derived.ProofKit
import Derived.OpenShut
namespace Go.Z
open Go Go.RowKit Go.ChangeShapes Go.WideShapes Go.ChangeAt

theorem trodAll_below {H : Type} {enc : TypeId × Value → H} {P : Program} (hl : laidOutB P = true) {W W' : World} (hb : Below W.heap.size W W') : ∀ {ts : List TypeId} {vs : List Value} {ds : List (DataW H)} {ps : List MemPlace},
    (∀ t ∈ ts, P.readableRec t = true ∧ t < P.types.size) → DataW.TrodAll enc P W 0 (fun _ => true) true ts vs ds ps → (∀ x ∈ ps, x.block < W.heap.size) → DataW.TrodAll enc P W' 0 (fun b => decide (b < W.heap.size)) true ts vs ds ps
  | [], [], [], _, _, h, _ => h
  | t :: ts, v :: vs, d :: ds, ps, hr, h, hlt => by
    obtain ⟨p, q, h1, h2, rfl⟩ := h
    exact ⟨p, q, Below.trod hl (hr t (by simp)).1 (hr t (by simp)).2 h1 hb (fun x hx => hlt x (by simp [hx])), trodAll_below hl hb (fun t' ht => hr t' (by simp [ht])) h2 (fun x hx => hlt x (by simp [hx])), rfl⟩
  | [], _ :: _, _, _, _, h, _ => by simp [DataW.TrodAll] at h
  | [], [], _ :: _, _, _, h, _ => by simp [DataW.TrodAll] at h
  | _ :: _, [], _, _, _, h, _ => by simp [DataW.TrodAll] at h
  | _ :: _, _ :: _, [], _, _, h, _ => by simp [DataW.TrodAll] at h

theorem law_post {H : Type} {enc : TypeId × Value → H} {P : Program} {f : Func} {s : ChangeSpec} {W W' : World} {args : Array Value} {ds gs : List (DataW H)} {before : List MemPlace} {bt : TypeId} (hl : laidOutB P = true)
    (hr : ∀ t ∈ f.params.toList, P.readableRec t = true ∧ t < P.types.size) (hW : DataW.Whole enc P f.params.toList s.vars false W args.toList ds gs before) (hv : s.vars = [])
    (hs : s.fn H (ds ++ gs) = { results := [.lit (.bool true)], args := ds }) (hrt : f.resultTypes = #[bt]) (hbt : P.underlying bt = some .bool) (hb : Below W.heap.size W W') :
    s.post enc P f false true false false W args (.bool true) W' := by
  have hW0 := hW
  obtain ⟨p, q, hA, hV, rfl, hfz, hnd⟩ := hW
  rw [hv] at hV
  obtain ⟨rfl, rfl⟩ := trodVars_none hV
  have hlt : ∀ x ∈ p, x.block < W.heap.size := fun x hx => hW0.lt x (by simp [hx])
  refine ⟨ds, [], p ++ [], [], p, [], hW0, ?_, ?_, ?_, hb.frame _, fun h => by cases h⟩
  · rw [hs, hrt]
    exact trodAll_mk1 (shut_bool hbt true)
  · rw [hs]
    exact trodAll_below hl hb hr hA hlt
  · rw [hs, hv]; rfl
/-- What a slice of integers reads as. -/
theorem ints_ro {H : Type} {enc : TypeId × Value → H} {P : Program} {W : World} {ik : IntKind} {t e : TypeId} {a0 : Option Addr} {len cap : Nat} {d : DataW H} {p : List MemPlace} (ht : P.underlying t = some (.slice e)) (he : P.underlying e = some (.int ik)) (hc : P.cellsOf e = 1)
    (h : DataW.Trod enc P W 0 (fun _ => true) true t (.slice a0 len cap) d p) :
    ∃ zs : List Int, zs.length = len ∧ (∀ n ∈ zs, (Lit.int ik n).wf = true) ∧ (0 < len → ∃ b o, a0 = some ⟨b, o, none⟩ ∧ Ro W b o (zs.map (Value.int ik))) := by
  obtain ⟨fuel, hf⟩ := h
  rcases open_ints ht he hc hf with ⟨hcs, hx⟩ | ⟨a, len', cap', zs, hcs, _, hl, hm, hz, hx, hcell, hwz⟩
  · simp [Value.cells] at hcs
    obtain ⟨rfl, rfl, rfl⟩ := hcs
    exact ⟨[], rfl, by simp, by simp⟩
  · simp [Value.cells] at hcs
    obtain ⟨rfl, rfl, rfl⟩ := hcs
    simp at hz
    refine ⟨zs.take len, by simp; omega, fun n hn => hwz n (List.mem_of_mem_take hn), fun h0 => ?_⟩
    obtain ⟨b, off, rfl, hcell'⟩ := ints_at hcell (by omega)
    refine ⟨b, off, rfl, ?_, fun j v hj => ?_⟩
    · have h1 := hcell' 0 (by omega)
      rcases Nat.lt_or_ge b W.heap.size with h' | h'
      · exact h'
      · simp [World.cell?, Array.getElem?_eq_none h'] at h1
    · rw [List.getElem?_map] at hj
      cases e : (zs.take len)[j]? with
      | none => rw [e] at hj; cases hj
      | some x =>
        rw [e] at hj; cases hj
        have hjl : j < zs.length := by
          rcases Nat.lt_or_ge j zs.length with h' | h'
          · exact h'
          · rw [List.getElem?_eq_none (by simp; omega)] at e; cases e
        rw [hcell' j hjl, List.getD_eq_getElem?_getD]
        rw [List.getElem?_take] at e
        split at e
        · rw [e]; rfl
        · cases e
end Go.Z
