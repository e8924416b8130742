/-
  tansylaw02.ExtentScript is true for every input, and leaves it as it was: no condition.
-/
import Derived.Test.YtdannmfdenlikaaExtRow2
import Derived.Test.YtdannmfdenlikaaExtL5
namespace Go.Proofs.Ytdannmfdenlikaa
set_option linter.unusedSimpArgs false
set_option linter.unusedVariables false
set_option linter.unnecessarySimpa false
open Go Am Go.ChangeShapes Go.WideShapes Go.ChangeAt Go.RowKit

set_option maxRecDepth 100000 in
theorem extentScript_lifted (os : Os) (started : os.Started) (H : Type) (enc : TypeId × Value → H) :
    ReturnsInHanded {} Try.checked os 3 .any (Rows.extentScriptSpec.pre6 enc Try.prog Try.f3 Rows.extentScriptRow.domain false) (Rows.extentScriptSpec.post enc Try.prog Try.f3 false true false false) := by
  refine returnsInHanded_of_change (C := Try.checked) own_knob started (by kernel_rfl) Try.func3
    (ChangeSpec.witness6 (enc := enc) (C := Try.checked) false ⟨#[], #[.int .i64 0, .slice none 0 0], []⟩ 8 (by kernel_rfl) (by kernel_rfl) (by kernel_rfl) (by kernel_rfl)) ?_
  intro W base args ds gs before hval0 hW hcnd _
  have hval : ∀ (j : Nat) t v, Try.f3.params[j]? = some t → args[j]? = some v → Value.okWide Try.prog W .any base t v := hval0
  have hW' := hW
  obtain ⟨p, q, hA0, hV, rfl, hfz, hnd⟩ := hW
  have hA : DataW.TrodAll enc Try.prog W 0 (fun _ => true) true Try.f3.params.toList args.toList ds p := hA0
  rw [Try.params3] at hA hval
  obtain ⟨v0, v1, d0, d1, p0, p1, rfl, rfl, rfl, h0, h1⟩ := trodAll_two hA
  obtain ⟨rfl, rfl⟩ := trodVars_none hV
  obtain ⟨a0, f0, r0'⟩ := arg_one sh_int ty_tagg_3 (hval 0 3 v0 rfl rfl) h0
  obtain ⟨a1, f1, r1'⟩ := arg_one sh_i16s ty_tagg_22 (hval 1 22 v1 rfl rfl) h1
  obtain ⟨size, e0, hq0⟩ := arg_int f0
  rw [e0] at r0'
  obtain ⟨ns, e1, hq1⟩ := arg_i16s f1
  rw [e1] at r1'
  refine (law_calls (script_ok size ns none0 0 hq0.1 hq1) (ravs_cons (r0' _ _) (ravs_cons (r1' _ _) ravs_nil))).mono fun e W' ⟨he, hold⟩ => ?_
  exact ⟨_, he, law_post laid_out (by kernel_rfl) rfl (by kernel_rfl) Try.underlying4 hW' rfl rfl rfl hold⟩

theorem extentScript_holds : Rows.ExtentScriptSaid :=
  OpenClaim.holds_of_wide 3 Try.f3 rfl rfl rfl rfl rfl rfl rfl ⟨rfl, rfl, rfl, rfl, rfl⟩ rfl rfl rfl rfl rfl (by kernel_rfl) Try.func3 (by kernel_rfl)
    (of_decide_eq_true (by kernel_rfl)) (by unfold Func.isWrapper; rw [if_neg (of_decide_eq_false (by kernel_rfl))]; exact ⟨rfl, rfl⟩)
    (fun os started H enc _ => extentScript_lifted os started H enc)

end Go.Proofs.Ytdannmfdenlikaa
