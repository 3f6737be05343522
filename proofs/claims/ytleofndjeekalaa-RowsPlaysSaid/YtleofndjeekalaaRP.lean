/- Rows: every answer is the document's: RowsPlays answers true at every input, no condition. -/
import Derived.Test.YtleofndjeekalaaSC
import Derived.Test.YtleofndjeekalaaRows
import Derived.Test.YtleofndjeekalaaZ9
import Derived.KernelRfl
namespace Go.Proofs.Ytleofndjeekalaa
open Go Go.RowKit Go.ChangeShapes Go.WideShapes Go.ChangeAt

theorem Try.own : ownKnob Try.prog.godebug = none := by kernel_rfl
theorem Try.laidOut : laidOutB Try.prog = true := by kernel_rfl

set_option maxRecDepth 100000 in
theorem lifted (os : Os) (started : os.Started) (H : Type) (enc : TypeId × Value → H) :
    ReturnsInHanded {} Try.checked os 3 .any (Rows.rowsPlaysSpec.pre6 enc Try.prog Try.f3 Rows.rowsPlaysRow.domain false) (Rows.rowsPlaysSpec.post enc Try.prog Try.f3 false true false false) := by
  refine returnsInHanded_of_change (C := Try.checked) Try.own started (by kernel_rfl) Try.func3
    (ChangeSpec.witness6 (enc := enc) (C := Try.checked) false ⟨#[], #[.slice none 0 0, .slice none 0 0, .int .i64 0], []⟩ 8 (by kernel_rfl) (by kernel_rfl) (by kernel_rfl) (by kernel_rfl)) ?_
  intro W base args ds gs before hval0 hW hcnd _
  have hval : ∀ (j : Nat) t v, Try.f3.params[j]? = some t → args[j]? = some v → Value.okWide Try.prog W .any base t v := hval0
  have hW' := hW
  obtain ⟨p, q, hA0, hV, rfl, hfz, hnd⟩ := hW
  have hA : DataW.TrodAll enc Try.prog W 0 (fun _ => true) true Try.f3.params.toList args.toList ds p := hA0
  rw [Try.params3] at hA hval
  obtain ⟨v0, v1, v2, d0, d1, d2, p0, p1, p2, rfl, rfl, rfl, h0, h1, h2⟩ := trodAll_three hA
  obtain ⟨rfl, rfl⟩ := trodVars_none hV
  obtain ⟨a0, n0, c0, rfl⟩ := okWide_slice Try.underlying22 (hval 0 22 v0 rfl rfl)
  obtain ⟨a1, n1, c1, rfl⟩ := okWide_slice Try.underlying23 (hval 1 23 v1 rfl rfl)
  obtain ⟨most, rfl⟩ := okWide_int Try.underlying3 (hval 2 3 v2 rfl rfl)
  clear hA0 hval0
  obtain ⟨os, hl0, hq0, hr0⟩ := Z.slice_ro is_opR (Z.Rd.trod (Z.rd_slice (k := 3) Try.underlying22 (by kernel_rfl) (by decide) (Z.rd_struct (tot := 3) Try.underlying38 (by kernel_rfl) (.cons (k := 1) rfl (by kernel_rfl) (Z.rd_int Try.underlying3) (.cons (k := 2) rfl (by kernel_rfl) (Z.rd_struct (tot := 2) Try.underlying36 (by kernel_rfl) (.cons (k := 1) rfl (by kernel_rfl) (Z.rd_int Try.underlying3) (.cons (k := 1) rfl (by kernel_rfl) (Z.rd_int Try.underlying34) .nil))) .nil)))) h0)
  have hos : ∀ o ∈ os, o.Ok := fun o ho => opR_ok (hq0 o ho)
  obtain ⟨ar, hal1, hA1, hao1⟩ := area_ro (Z.Rd.trod (Z.rd_sliceM (k := 1) Try.underlying23 (by kernel_rfl) (by decide) (Z.rd_sliceM (k := 2) Try.underlying64 (by kernel_rfl) (by decide) (Z.rd_struct (tot := 2) Try.underlying63 (by kernel_rfl) (.cons (k := 1) rfl (by kernel_rfl) (Z.rd_int Try.underlying34) (.cons (k := 1) rfl (by kernel_rfl) (Z.rd_int Try.underlying34) .nil))))) h1)
  have hc := plays_law W a0 n0 c0 os hl0 hr0 hos _ ar hA1 hao1 most
  refine (hc [] W (Z.St.init W)).mono fun e W' ⟨he, hw⟩ => ?_
  subst he
  exact ⟨_, rfl, Z.law_post (bt := 4) Try.laidOut (by rw [Try.params3]; intro t ht; simp at ht; (first | (rcases ht with rfl | rfl | rfl | rfl) | (rcases ht with rfl | rfl | rfl) | (rcases ht with rfl | rfl) | subst ht) <;> exact ⟨by kernel_rfl, of_decide_eq_true (by kernel_rfl)⟩) hW' rfl rfl (by kernel_rfl) Try.underlying4 hw.below⟩

theorem rowsPlays_holds : Rows.RowsPlaysSaid :=
  OpenClaim.holds_of_wide 3 Try.f3 rfl rfl rfl rfl rfl rfl rfl ⟨rfl, rfl, rfl, rfl, rfl⟩ rfl rfl rfl rfl rfl (by kernel_rfl) Try.func3 (by kernel_rfl)
    (of_decide_eq_true (by kernel_rfl)) (by unfold Func.isWrapper; first | (rw [if_pos (by decide +kernel)]; kernel_rfl) | (rw [if_neg (by decide +kernel)]; exact ⟨rfl, rfl⟩))
    (fun os started H enc _ => lifted os started H enc)
end Go.Proofs.Ytleofndjeekalaa
