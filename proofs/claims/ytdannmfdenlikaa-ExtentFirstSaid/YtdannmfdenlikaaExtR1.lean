/-
  tansylaw02.ExtentFirst is true for every input, and leaves it as it was: no condition.
-/
import Derived.Test.YtdannmfdenlikaaExtRow
import Derived.Test.YtdannmfdenlikaaExtL1
namespace Go.Proofs.Ytdannmfdenlikaa
set_option linter.unusedSimpArgs false
set_option linter.unusedVariables false
set_option linter.unnecessarySimpa false
open Go Am Go.ChangeShapes Go.WideShapes Go.ChangeAt Go.RowKit

set_option maxRecDepth 100000 in
theorem extentFirst_lifted (os : Os) (started : os.Started) (H : Type) (enc : TypeId × Value → H) :
    ReturnsInHanded {} Try.checked os 5 .any (Rows.extentFirstSpec.pre6 enc Try.prog Try.f5 Rows.extentFirstRow.domain false) (Rows.extentFirstSpec.post enc Try.prog Try.f5 false true false false) := by
  refine returnsInHanded_of_change (C := Try.checked) own_knob started (by kernel_rfl) Try.func5
    (ChangeSpec.witness6 (enc := enc) (C := Try.checked) false ⟨#[], #[.agg #[.int .i64 0, .slice none 0 0], .int .i64 0, .int .i64 0], []⟩ 8 (by kernel_rfl) (by kernel_rfl) (by kernel_rfl) (by kernel_rfl)) ?_
  intro W base args ds gs before hval0 hW hcnd _
  have hval : ∀ (j : Nat) t v, Try.f5.params[j]? = some t → args[j]? = some v → Value.okWide Try.prog W .any base t v := hval0
  have hW' := hW
  obtain ⟨p, q, hA0, hV, rfl, hfz, hnd⟩ := hW
  have hA : DataW.TrodAll enc Try.prog W 0 (fun _ => true) true Try.f5.params.toList args.toList ds p := hA0
  rw [Try.params5] at hA hval
  obtain ⟨v0, v1, v2, d0, d1, d2, p0, p1, p2, rfl, rfl, rfl, h0, h1, h2⟩ := trodAll_three hA
  obtain ⟨rfl, rfl⟩ := trodVars_none hV
  obtain ⟨a0, f0, r0⟩ := arg_agg sh_exts ty_tagg_26 (hval 0 26 v0 rfl rfl) h0
  obtain ⟨a1, f1, r1⟩ := arg_one sh_int ty_tagg_3 (hval 1 3 v1 rfl rfl) h1
  obtain ⟨a2, f2, r2⟩ := arg_one sh_int ty_tagg_3 (hval 2 3 v2 rfl rfl) h2
  obtain ⟨x, e0, _⟩ := arg_exts f0
  obtain ⟨n, e1, _⟩ := arg_int f1
  obtain ⟨at_, e2, _⟩ := arg_int f2
  rw [e0] at r0; rw [e1] at r1; rw [e2] at r2
  refine (law_calls (first_ok x n at_ none0 0) (ravs_cons (r0 _ _) (ravs_cons (r1 _ _) (ravs_cons (r2 _ _) ravs_nil)))).mono fun e W' ⟨he, hold⟩ => ?_
  exact ⟨_, he, law_post laid_out (by kernel_rfl) rfl (by kernel_rfl) Try.underlying4 hW' rfl rfl rfl hold⟩

theorem extentFirst_holds : Rows.ExtentFirstSaid :=
  OpenClaim.holds_of_wide 5 Try.f5 rfl rfl rfl rfl rfl rfl rfl ⟨rfl, rfl, rfl, rfl, rfl⟩ rfl rfl rfl rfl rfl (by kernel_rfl) Try.func5 (by kernel_rfl)
    (of_decide_eq_true (by kernel_rfl)) (by unfold Func.isWrapper; rw [if_neg (of_decide_eq_false (by kernel_rfl))]; exact ⟨rfl, rfl⟩)
    (fun os started H enc _ => extentFirst_lifted os started H enc)

end Go.Proofs.Ytdannmfdenlikaa
