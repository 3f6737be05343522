/- Segtree: the row. -/
import Derived.Test.YtggndcaehjdklaaRows
import Derived.Test.YtggndcaehjdklaaS9
import Derived.Test.YtggndcaehjdklaaZ9
import Derived.Test.YtggndcaehjdklaaL
namespace Go.Proofs.Ytggndcaehjdklaa
open Go Go.RowKit Go.ChangeShapes Go.WideShapes Go.ChangeAt

theorem Try.own : ownKnob Try.prog.godebug = none := by kernel_rfl
theorem Try.laidOut : laidOutB Try.prog = true := by kernel_rfl

set_option maxRecDepth 100000 in
theorem lifted (os : Os) (started : os.Started) (H : Type) (enc : TypeId × Value → H) :
    ReturnsInHanded {} Try.checked os 3 .any (Rows.segtreeKeysSpec.pre6 enc Try.prog Try.f3 Rows.segtreeKeysRow.domain false) (Rows.segtreeKeysSpec.post enc Try.prog Try.f3 false true false false) := by
  refine returnsInHanded_of_change (C := Try.checked) Try.own started (by kernel_rfl) Try.func3
    (ChangeSpec.witness6 (enc := enc) (C := Try.checked) false ⟨#[], #[.slice none 0 0, .slice none 0 0], []⟩ 8 (by kernel_rfl) (by kernel_rfl) (by kernel_rfl) (by kernel_rfl)) ?_
  intro W base args ds gs before hval0 hW hcnd _
  have hval : ∀ (j : Nat) t v, Try.f3.params[j]? = some t → args[j]? = some v → Value.okWide Try.prog W .any base t v := hval0
  have hW' := hW
  obtain ⟨p, q, hA0, hV, rfl, hfz, hnd⟩ := hW
  have hA : DataW.TrodAll enc Try.prog W 0 (fun _ => true) true Try.f3.params.toList args.toList ds p := hA0
  rw [Try.params3] at hA hval
  obtain ⟨v0, v1, d0, d1, p0, p1, rfl, rfl, rfl, h0, h1⟩ := trodAll_two hA
  obtain ⟨rfl, rfl⟩ := trodVars_none hV
  obtain ⟨a0, n0, c0, rfl⟩ := okWide_slice Try.underlying22 (hval 0 22 v0 rfl rfl)
  obtain ⟨a1, n1, c1, rfl⟩ := okWide_slice Try.underlying23 (hval 1 23 v1 rfl rfl)
  clear hA0 hval0
  obtain ⟨ks, hk, hkw, hkr⟩ := Z.ints_ro (ik := .u32) Try.underlying22 Try.underlying30 (by kernel_rfl) h0
  obtain ⟨vs, hv, hvw, hvr⟩ := Z.ints_ro (ik := .i64) Try.underlying23 Try.underlying2 (by kernel_rfl) h1
  have hkb : ∀ i, 0 ≤ ks.getD i 0 ∧ ks.getD i 0 < 4294967296 := fun i => by
    rw [List.getD_eq_getElem?_getD]
    cases e : ks[i]? with
    | none => simp
    | some x =>
      have := hkw x (List.mem_of_getElem? e)
      simp [Lit.wf, IntKind.min, IntKind.max, IntKind.bits, IntKind.signed] at this
      simp; omega
  have hc := law_spec W a0 a1 n0 n1 c0 c1 ks vs hk hv hkr hvr hkb (fun h => lf ks vs n0 h hkb)
  refine (hc [] W (Z.St.init W)).mono fun e W' ⟨he, hw⟩ => ?_
  subst he
  exact ⟨_, rfl, Z.law_post (bt := 4) Try.laidOut (by rw [Try.params3]; intro t ht; simp at ht; rcases ht with rfl | rfl <;> exact ⟨by kernel_rfl, of_decide_eq_true (by kernel_rfl)⟩) hW' rfl rfl (by kernel_rfl) Try.underlying4 hw.below⟩

theorem segtreeKeys_holds : Rows.SegtreeKeysSaid :=
  OpenClaim.holds_of_wide 3 Try.f3 rfl rfl rfl rfl rfl rfl rfl ⟨rfl, rfl, rfl, rfl, rfl⟩ rfl rfl rfl rfl rfl (by kernel_rfl) Try.func3 (by kernel_rfl)
    (of_decide_eq_true (by kernel_rfl)) (by unfold Func.isWrapper; first | (rw [if_pos (by decide +kernel)]; kernel_rfl) | (rw [if_neg (by decide +kernel)]; exact ⟨rfl, rfl⟩))
    (fun os started H enc _ => lifted os started H enc)
end Go.Proofs.Ytggndcaehjdklaa
