/- Token: what has ended does not come back, but by a new session: TokenEnds answers true at every input, no condition. -/
import Derived.Test.YtjilnmjjehkidaaS8
import Derived.Test.YtjilnmjjehkidaaRows
import Derived.Test.YtjilnmjjehkidaaZ9
import Derived.KernelRfl
namespace Go.Proofs.Ytjilnmjjehkidaa
open Go Go.RowKit Go.ChangeShapes Go.WideShapes Go.ChangeAt

theorem Try.own : ownKnob Try.prog.godebug = none := by kernel_rfl
theorem Try.laidOut : laidOutB Try.prog = true := by kernel_rfl

set_option maxRecDepth 100000 in
theorem lifted (os : Os) (started : os.Started) (H : Type) (enc : TypeId × Value → H) :
    ReturnsInHanded {} Try.checked os 3 .any (Rows.tokenEndsSpec.pre6 enc Try.prog Try.f3 Rows.tokenEndsRow.domain false) (Rows.tokenEndsSpec.post enc Try.prog Try.f3 false true false false) := by
  refine returnsInHanded_of_change (C := Try.checked) Try.own started (by kernel_rfl) Try.func3
    (ChangeSpec.witness6 (enc := enc) (C := Try.checked) false ⟨#[], #[.int .i64 0, .int .i64 0, .int .i64 0, .slice none 0 0], []⟩ 8 (by kernel_rfl) (by kernel_rfl) (by kernel_rfl) (by kernel_rfl)) ?_
  intro W base args ds gs before hval0 hW hcnd _
  have hval : ∀ (j : Nat) t v, Try.f3.params[j]? = some t → args[j]? = some v → Value.okWide Try.prog W .any base t v := hval0
  have hW' := hW
  obtain ⟨p, q, hA0, hV, rfl, hfz, hnd⟩ := hW
  have hA : DataW.TrodAll enc Try.prog W 0 (fun _ => true) true Try.f3.params.toList args.toList ds p := hA0
  rw [Try.params3] at hA hval
  obtain ⟨v0, v1, v2, v3, d0, d1, d2, d3, p0, p1, p2, p3, rfl, rfl, rfl, h0, h1, h2, h3⟩ := trodAll_four hA
  obtain ⟨rfl, rfl⟩ := trodVars_none hV
  obtain ⟨x, rfl⟩ := okWide_int Try.underlying3 (hval 0 3 v0 rfl rfl)
  obtain ⟨y, rfl⟩ := okWide_int Try.underlying2 (hval 1 2 v1 rfl rfl)
  obtain ⟨z, rfl⟩ := okWide_int Try.underlying2 (hval 2 2 v2 rfl rfl)
  obtain ⟨a3, n3, c3, rfl⟩ := okWide_slice Try.underlying22 (hval 3 22 v3 rfl rfl)
  clear hA0 hval0
  obtain ⟨os, hl3, _, hr3⟩ := Z.slice_ro is_op (Z.Rd.trod (Z.rd_slice (k := 4) Try.underlying22 (by kernel_rfl) (by decide) (Z.rd_struct (tot := 4) Try.underlying33 (by kernel_rfl) (.cons (k := 1) rfl (by kernel_rfl) (Z.rd_int Try.underlying3) (.cons (k := 1) rfl (by kernel_rfl) (Z.rd_int Try.underlying3) (.cons (k := 1) rfl (by kernel_rfl) (Z.rd_int Try.underlying31) (.cons (k := 1) rfl (by kernel_rfl) (Z.rd_int Try.underlying2) .nil)))))) h3)
  have hc := ends_law W x y z a3 n3 c3 os hl3 hr3
  refine (hc [] W (Z.St.init W)).mono fun e W' ⟨he, hw⟩ => ?_
  subst he
  exact ⟨_, rfl, Z.law_post (bt := 4) Try.laidOut (by rw [Try.params3]; intro t ht; simp at ht; (first | (rcases ht with rfl | rfl | rfl | rfl) | (rcases ht with rfl | rfl | rfl) | (rcases ht with rfl | rfl) | subst ht) <;> exact ⟨by kernel_rfl, of_decide_eq_true (by kernel_rfl)⟩) hW' rfl rfl (by kernel_rfl) Try.underlying4 hw.below⟩

theorem tokenEnds_holds : Rows.TokenEndsSaid :=
  OpenClaim.holds_of_wide 3 Try.f3 rfl rfl rfl rfl rfl rfl rfl ⟨rfl, rfl, rfl, rfl, rfl⟩ rfl rfl rfl rfl rfl (by kernel_rfl) Try.func3 (by kernel_rfl)
    (of_decide_eq_true (by kernel_rfl)) (by unfold Func.isWrapper; first | (rw [if_pos (by decide +kernel)]; kernel_rfl) | (rw [if_neg (by decide +kernel)]; exact ⟨rfl, rfl⟩))
    (fun os started H enc _ => lifted os started H enc)
end Go.Proofs.Ytjilnmjjehkidaa
