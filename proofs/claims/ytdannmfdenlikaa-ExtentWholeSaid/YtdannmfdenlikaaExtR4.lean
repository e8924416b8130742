/-
  tansylaw02.ExtentWhole is true for every input, and leaves it as it was: no condition.
-/
import Derived.Test.YtdannmfdenlikaaExtRow2
namespace Go.Proofs.Ytdannmfdenlikaa
set_option linter.unusedSimpArgs false
set_option linter.unusedVariables false
set_option linter.unnecessarySimpa false
open Go Am Go.ChangeShapes Go.WideShapes Go.ChangeAt Go.RowKit

set_option maxRecDepth 100000 in
theorem extentWhole_lifted (os : Os) (started : os.Started) (H : Type) (enc : TypeId × Value → H) :
    ReturnsInHanded {} Try.checked os 4 .any (Rows.extentWholeSpec.pre6 enc Try.prog Try.f4 Rows.extentWholeRow.domain false) (Rows.extentWholeSpec.post enc Try.prog Try.f4 false true false false) := by
  refine returnsInHanded_of_change (C := Try.checked) own_knob started (by kernel_rfl) Try.func4
    (ChangeSpec.witness6 (enc := enc) (C := Try.checked) false ⟨#[], #[.agg #[.int .i64 0, .slice none 0 0], .int .i64 0, .slice none 0 0], []⟩ 8 (by kernel_rfl) (by kernel_rfl) (by kernel_rfl) (by kernel_rfl)) ?_
  intro W base args ds gs before hval0 hW hcnd _
  have hval : ∀ (j : Nat) t v, Try.f4.params[j]? = some t → args[j]? = some v → Value.okWide Try.prog W .any base t v := hval0
  have hW' := hW
  obtain ⟨p, q, hA0, hV, rfl, hfz, hnd⟩ := hW
  have hA : DataW.TrodAll enc Try.prog W 0 (fun _ => true) true Try.f4.params.toList args.toList ds p := hA0
  rw [Try.params4] at hA hval
  obtain ⟨v0, v1, v2, d0, d1, d2, p0, p1, p2, rfl, rfl, rfl, h0, h1, h2⟩ := trodAll_three hA
  obtain ⟨rfl, rfl⟩ := trodVars_none hV
  obtain ⟨a0, f0, r0'⟩ := arg_agg sh_exts ty_tagg_26 (hval 0 26 v0 rfl rfl) h0
  obtain ⟨a1, f1, r1'⟩ := arg_one sh_int ty_tagg_3 (hval 1 3 v1 rfl rfl) h1
  obtain ⟨a2, f2, r2'⟩ := arg_one sh_u8s ty_tagg_38 (hval 2 38 v2 rfl rfl) h2
  obtain ⟨x, e0, hq0⟩ := arg_exts f0
  rw [e0] at r0'
  obtain ⟨n, e1, hq1⟩ := arg_int f1
  rw [e1] at r1'
  obtain ⟨ord, e2, hq2⟩ := arg_u8s f2
  rw [e2] at r2'
  refine (law_calls (whole_ok x n ord none0 0 hq1.2 hq2) (ravs_cons (r0' _ _) (ravs_cons (r1' _ _) (ravs_cons (r2' _ _) ravs_nil)))).mono fun e W' ⟨he, hold⟩ => ?_
  exact ⟨_, he, law_post laid_out (by kernel_rfl) rfl (by kernel_rfl) Try.underlying4 hW' rfl rfl rfl hold⟩

theorem extentWhole_holds : Rows.ExtentWholeSaid :=
  OpenClaim.holds_of_wide 4 Try.f4 rfl rfl rfl rfl rfl rfl rfl ⟨rfl, rfl, rfl, rfl, rfl⟩ rfl rfl rfl rfl rfl (by kernel_rfl) Try.func4 (by kernel_rfl)
    (of_decide_eq_true (by kernel_rfl)) (by unfold Func.isWrapper; rw [if_neg (of_decide_eq_false (by kernel_rfl))]; exact ⟨rfl, rfl⟩)
    (fun os started H enc _ => extentWhole_lifted os started H enc)

end Go.Proofs.Ytdannmfdenlikaa
