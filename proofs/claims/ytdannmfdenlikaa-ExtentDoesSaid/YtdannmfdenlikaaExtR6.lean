/-
  tansylaw02.ExtentDoes is true for every input, and leaves it as it was: no condition.
-/
import Derived.Test.YtdannmfdenlikaaExtRow
import Derived.Test.YtdannmfdenlikaaExtD10
namespace Go.Proofs.Ytdannmfdenlikaa
set_option linter.unusedSimpArgs false
set_option linter.unusedVariables false
set_option linter.unnecessarySimpa false
open Go Am Go.ChangeShapes Go.WideShapes Go.ChangeAt Go.RowKit

set_option maxRecDepth 100000 in
theorem extentDoes_lifted (os : Os) (started : os.Started) (H : Type) (enc : TypeId × Value → H) :
    ReturnsInHanded {} Try.checked os 7 .any (Rows.extentDoesSpec.pre6 enc Try.prog Try.f7 Rows.extentDoesRow.domain false) (Rows.extentDoesSpec.post enc Try.prog Try.f7 false true false false) := by
  refine returnsInHanded_of_change (C := Try.checked) own_knob started (by kernel_rfl) Try.func7
    (ChangeSpec.witness6 (enc := enc) (C := Try.checked) false ⟨#[], #[.agg #[.int .i64 0, .slice none 0 0], .agg #[.int .i64 0, .slice none 0 0], .int .i64 0, .agg #[.int .i64 0, .int .i64 0], .int .i64 0], []⟩ 8 (by kernel_rfl) (by kernel_rfl) (by kernel_rfl) (by kernel_rfl)) ?_
  intro W base args ds gs before hval0 hW hcnd _
  have hval : ∀ (j : Nat) t v, Try.f7.params[j]? = some t → args[j]? = some v → Value.okWide Try.prog W .any base t v := hval0
  have hW' := hW
  obtain ⟨p, q, hA0, hV, rfl, hfz, hnd⟩ := hW
  have hA : DataW.TrodAll enc Try.prog W 0 (fun _ => true) true Try.f7.params.toList args.toList ds p := hA0
  rw [Try.params7] at hA hval
  obtain ⟨v0, vs0, d0, ds0, p0, q0, hargs, rfl, rfl, h0, r0⟩ := trodAll_cons hA
  obtain ⟨v1, vs1, d1, ds1, p1, q1, rfl, rfl, rfl, h1, r1⟩ := trodAll_cons r0
  obtain ⟨v2, vs2, d2, ds2, p2, q2, rfl, rfl, rfl, h2, r2⟩ := trodAll_cons r1
  obtain ⟨v3, vs3, d3, ds3, p3, q3, rfl, rfl, rfl, h3, r3⟩ := trodAll_cons r2
  obtain ⟨v4, vs4, d4, ds4, p4, q4, rfl, rfl, rfl, h4, r4⟩ := trodAll_cons r3
  obtain ⟨rfl, rfl, rfl⟩ := trodAll_nil r4
  have hargs' : args = #[v0, v1, v2, v3, v4] := by cases args; simp_all
  subst hargs'
  obtain ⟨rfl, rfl⟩ := trodVars_none hV
  obtain ⟨a0, f0, r0'⟩ := arg_agg sh_exts ty_tagg_26 (hval 0 26 v0 rfl rfl) h0
  obtain ⟨a1, f1, r1'⟩ := arg_agg sh_exts ty_tagg_26 (hval 1 26 v1 rfl rfl) h1
  obtain ⟨a2, f2, r2'⟩ := arg_one sh_int ty_tagg_3 (hval 2 3 v2 rfl rfl) h2
  obtain ⟨a3, f3, r3'⟩ := arg_agg sh_ext ty_tagg_33 (hval 3 33 v3 rfl rfl) h3
  obtain ⟨a4, f4, r4'⟩ := arg_one sh_int ty_tagg_3 (hval 4 3 v4 rfl rfl) h4
  obtain ⟨x, e0, hq0⟩ := arg_exts f0
  rw [e0] at r0'
  obtain ⟨o, e1, hq1⟩ := arg_exts f1
  rw [e1] at r1'
  obtain ⟨n, e2, hq2⟩ := arg_int f2
  rw [e2] at r2'
  obtain ⟨s, e3, hq3⟩ := arg_ext f3
  rw [e3] at r3'
  obtain ⟨size, e4, hq4⟩ := arg_int f4
  rw [e4] at r4'
  refine (law_calls (does_ok x o n s size none0 0 hq2.2) (ravs_cons (r0' _ _) (ravs_cons (r1' _ _) (ravs_cons (r2' _ _) (ravs_cons (r3' _ _) (ravs_cons (r4' _ _) ravs_nil)))))).mono fun e W' ⟨he, hold⟩ => ?_
  exact ⟨_, he, law_post laid_out (by kernel_rfl) rfl (by kernel_rfl) Try.underlying4 hW' rfl rfl rfl hold⟩

theorem extentDoes_holds : Rows.ExtentDoesSaid :=
  OpenClaim.holds_of_wide 7 Try.f7 rfl rfl rfl rfl rfl rfl rfl ⟨rfl, rfl, rfl, rfl, rfl⟩ rfl rfl rfl rfl rfl (by kernel_rfl) Try.func7 (by kernel_rfl)
    (of_decide_eq_true (by kernel_rfl)) (by unfold Func.isWrapper; rw [if_neg (of_decide_eq_false (by kernel_rfl))]; exact ⟨rfl, rfl⟩)
    (fun os started H enc _ => extentDoes_lifted os started H enc)

end Go.Proofs.Ytdannmfdenlikaa
