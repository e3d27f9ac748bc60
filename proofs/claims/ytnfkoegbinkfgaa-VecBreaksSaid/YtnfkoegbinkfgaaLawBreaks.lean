/-
  VecBreaks: whatever the input, it answers true, and each argument reads as it did. No condition.
-/
import Derived.Test.YtnfkoegbinkfgaaRows
import Derived.Test.YtnfkoegbinkfgaaBreaks
import Derived.Test.YtnfkoegbinkfgaaRow
import Derived.ProofKit
import Derived.OpenShut
namespace Go.Proofs.Ytnfkoegbinkfgaa.vecBreaks
open Go.ChangeShapes Go.WideShapes Go.ChangeAt Go.RowKit Go.ChangeMaps
set_option linter.unusedVariables false
theorem own : ownKnob Try.prog.godebug = none := by kernel_rfl
theorem laidOut : laidOutB Try.prog = true := by kernel_rfl

set_option maxRecDepth 100000 in
theorem lifted (os : Os) (started : os.Started) (H : Type) (enc : TypeId × Value → H) :
    ReturnsInHanded {} Try.checked os 5 .any (Rows.vecBreaksSpec.pre6 enc Try.prog Try.f5 Rows.vecBreaksRow.domain false) (Rows.vecBreaksSpec.post enc Try.prog Try.f5 false true false false) := by
  refine returnsInHanded_of_change (C := Try.checked) own started (by kernel_rfl) Try.func5
    (ChangeSpec.witness6 (enc := enc) (C := Try.checked) false ⟨#[], #[.slice none 0 0, .int .u8 0], []⟩ 8 (by kernel_rfl) (by kernel_rfl) (by kernel_rfl) (by kernel_rfl)) ?_
  intro W base args ds gs before hval0 hW _ _
  have hval : ∀ (j : Nat) t v, Try.f5.params[j]? = some t → args[j]? = some v → Value.okWide Try.prog W .any base t v := hval0
  have hW' := hW
  obtain ⟨p, q, hA0, hV, rfl, _, _⟩ := hW
  have hA : DataW.TrodAll enc Try.prog W 0 (fun _ => true) true Try.f5.params.toList args.toList ds p := hA0
  rw [Try.params5] at hA hval
  obtain ⟨v0, v1, d0, d1, p0, p1, rfl, rfl, rfl, h0, h1⟩ := trodAll_two hA
  obtain ⟨rfl, rfl⟩ := trodVars_none hV
  obtain ⟨a0, len0, cap0, rfl⟩ := okWide_slice Try.underlying31 (hval 0 31 v0 rfl rfl)
  have k0 := h0
  have lt0 : ∀ x ∈ p0, x.block < W.heap.size := by obtain ⟨m, hm⟩ := k0; exact DataW.trod_lt m _ _ _ hm
  obtain ⟨a1, rfl, rfl, rfl, w1⟩ := open_int Try.underlying5 (hval 1 5 v1 rfl rfl) h1
  obtain ⟨zs, hs1, hc1, _⟩ := arg_ints (k := .i64) Try.underlying31 Try.underlying3 (by kernel_rfl) h0
  clear hA0 hval0
  have hat : 0 ≤ a1 ∧ a1 ≤ 255 := by
    have hm : IntKind.u8.min = 0 := by kernel_rfl
    have hx : IntKind.u8.max = 255 := by kernel_rfl
    have w2 := w1
    simp only [Lit.wf, Bool.and_eq_true, decide_eq_true_eq] at w2
    rw [hm, hx] at w2
    exact w2
  refine (breaks_walk a0 len0 cap0 zs a1 W hat hs1).mono fun e W' ⟨he, bel⟩ => ?_
  subst he
  exact ⟨_, rfl, _, _, _, [], _, [], hW', trodAll_mk1 (shut_bool Try.underlying4 _), trodAll_mk2 (Below.trod laidOut (by kernel_rfl) (of_decide_eq_true (by kernel_rfl)) k0 bel lt0) (shut_int Try.underlying5 w1), rfl, bel.frame _, fun h => by cases h⟩

theorem proved : Rows.VecBreaksSaid :=
  OpenClaim.holds_of_wide 5 Try.f5 rfl rfl rfl rfl rfl rfl rfl ⟨rfl, rfl, rfl, rfl, rfl⟩ rfl rfl rfl rfl rfl (by kernel_rfl) Try.func5 (by kernel_rfl)
    (of_decide_eq_true (by kernel_rfl)) (by unfold Func.isWrapper; first | (rw [if_pos (by decide +kernel)]; kernel_rfl) | (rw [if_neg (by decide +kernel)]; exact ⟨rfl, rfl⟩))
    (fun os started H enc _ => lifted os started H enc)
end Go.Proofs.Ytnfkoegbinkfgaa.vecBreaks
namespace Go.Proofs.Ytnfkoegbinkfgaa
theorem vecBreaks_holds : Rows.VecBreaksSaid := vecBreaks.proved
#print axioms vecBreaks_holds
end Go.Proofs.Ytnfkoegbinkfgaa
