/- Token: a session that is used in time lasts until absolute: TokenUses answers true at every input, no condition. -/
import Derived.Test.YtjilnmjjehkidaaS5
import Derived.Test.YtjilnmjjehkidaaRows
import Derived.Test.YtjilnmjjehkidaaZ9
import Derived.KernelRfl
namespace Go.Proofs.Ytjilnmjjehkidaa
open Go Go.RowKit Go.ChangeShapes Go.WideShapes Go.ChangeAt

theorem Try.own : ownKnob Try.prog.godebug = none := by kernel_rfl
theorem Try.laidOut : laidOutB Try.prog = true := by kernel_rfl

set_option maxRecDepth 100000 in
theorem lifted (os : Os) (started : os.Started) (H : Type) (enc : TypeId × Value → H) :
    ReturnsInHanded {} Try.checked os 5 .any (Rows.tokenUsesSpec.pre6 enc Try.prog Try.f5 Rows.tokenUsesRow.domain false) (Rows.tokenUsesSpec.post enc Try.prog Try.f5 false true false false) := by
  refine returnsInHanded_of_change (C := Try.checked) Try.own started (by kernel_rfl) Try.func5
    (ChangeSpec.witness6 (enc := enc) (C := Try.checked) false ⟨#[], #[.int .i64 0, .int .i64 0], []⟩ 8 (by kernel_rfl) (by kernel_rfl) (by kernel_rfl) (by kernel_rfl)) ?_
  intro W base args ds gs before hval0 hW hcnd _
  have hval : ∀ (j : Nat) t v, Try.f5.params[j]? = some t → args[j]? = some v → Value.okWide Try.prog W .any base t v := hval0
  have hW' := hW
  obtain ⟨p, q, hA0, hV, rfl, hfz, hnd⟩ := hW
  have hA : DataW.TrodAll enc Try.prog W 0 (fun _ => true) true Try.f5.params.toList args.toList ds p := hA0
  rw [Try.params5] at hA hval
  obtain ⟨v0, v1, d0, d1, p0, p1, rfl, rfl, rfl, h0, h1⟩ := trodAll_two hA
  obtain ⟨rfl, rfl⟩ := trodVars_none hV
  obtain ⟨x, rfl⟩ := okWide_int Try.underlying3 (hval 0 3 v0 rfl rfl)
  obtain ⟨y, rfl⟩ := okWide_int Try.underlying3 (hval 1 3 v1 rfl rfl)
  clear hA0 hval0
  have hc := uses_law W x y
  refine (hc [] W (Z.St.init W)).mono fun e W' ⟨he, hw⟩ => ?_
  subst he
  exact ⟨_, rfl, Z.law_post (bt := 4) Try.laidOut (by rw [Try.params5]; intro t ht; simp at ht; rcases ht with rfl <;> exact ⟨by kernel_rfl, of_decide_eq_true (by kernel_rfl)⟩) hW' rfl rfl (by kernel_rfl) Try.underlying4 hw.below⟩

theorem tokenUses_holds : Rows.TokenUsesSaid :=
  OpenClaim.holds_of_wide 5 Try.f5 rfl rfl rfl rfl rfl rfl rfl ⟨rfl, rfl, rfl, rfl, rfl⟩ rfl rfl rfl rfl rfl (by kernel_rfl) Try.func5 (by kernel_rfl)
    (of_decide_eq_true (by kernel_rfl)) (by unfold Func.isWrapper; first | (rw [if_pos (by decide +kernel)]; kernel_rfl) | (rw [if_neg (by decide +kernel)]; exact ⟨rfl, rfl⟩))
    (fun os started H enc _ => lifted os started H enc)
end Go.Proofs.Ytjilnmjjehkidaa
