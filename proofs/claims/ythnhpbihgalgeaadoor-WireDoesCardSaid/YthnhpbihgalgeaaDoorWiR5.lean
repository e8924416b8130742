/-
  tansylaw14.WireDoes is true for every input, and leaves it as it was: no condition; the tied card.
-/
import Derived.Test.YthnhpbihgalgeaaDoorWiRow
import Derived.Test.YthnhpbihgalgeaaDoorWiL5
namespace Go.Proofs.YthnhpbihgalgeaaDoor
set_option linter.unusedSimpArgs false
set_option linter.unusedVariables false
set_option linter.unnecessarySimpa false
open Go Am Go.ChangeShapes Go.WideShapes Go.ChangeAt Go.RowKit

set_option maxRecDepth 100000 in
theorem wireDoes_lifted (os : Os) (started : os.Started) (H : Type) (enc : TypeId × Value → H) :
    ReturnsInHanded {} Tryd.checked os 6 .any (fun w args => (Rows.wireDoesSpec.pre enc Tryd.prog Tryd.f6 [] false w args ∧ laidMetH Tryd.prog Rows.wireDoesRow.laid w) ∧ sizedMet enc Tryd.prog Tryd.f6 (OpenSpec.ofChange Rows.wireDoesSpec) false w args)
      (Rows.wireDoesSpec.post enc Tryd.prog Tryd.f6 false true false false) := by
  refine returnsInHanded_of_change_and (C := Tryd.checked) (X := fun w _ => laidMetH Tryd.prog Rows.wireDoesRow.laid w) (fun _ _ _ hh h => h.of_heap hh) own_knob started (by kernel_rfl) Tryd.func6
    (ChangeSpec.witness_shaped (enc := enc) (C := Tryd.checked) (os := os) (X := fun w _ => laidMetH Tryd.prog Rows.wireDoesRow.laid w) false (World.laidAll Tryd.prog os Rows.wireDoesRow.laid) #[.slice none 0 0, .agg #[.string ⟨#[]⟩, .float .f64 0, .int .u32 0, .int .i64 0, .int .i64 0, .int .i64 0], .slice none 0 0] 8 (World.laidAll_os _ _ _)
      (World.shaped_of_ZipB (by kernel_rfl) (by kernel_rfl)) (by kernel_rfl) (by kernel_rfl) (by kernel_rfl)
      (by rw [MakeChecks.laidMetH_plain _ _ _ (by kernel_rfl)]; exact laidMet_laidAll _ (by kernel_rfl) (by kernel_rfl))) ?_
  intro W base args ds gs before hval0 hW hcnd _ _ _
  have hval : ∀ (j : Nat) t v, Tryd.f6.params[j]? = some t → args[j]? = some v → Value.okWide Tryd.prog W .any base t v := hval0
  have hW' := hW
  obtain ⟨p, q, hA0, hV, rfl, hfz, hnd⟩ := hW
  have hA : DataW.TrodAll enc Tryd.prog W 0 (fun _ => true) true Tryd.f6.params.toList args.toList ds p := hA0
  rw [Tryd.params6] at hA hval
  obtain ⟨v0, v1, v2, d0, d1, d2, p0, p1, p2, rfl, rfl, rfl, h0, h1, h2⟩ := trodAll_three hA
  obtain ⟨rfl, rfl⟩ := trodVars_none hV
  obtain ⟨a0, f0, r0'⟩ := arg_one sh_fls ty_tagg_22 (hval 0 22 v0 rfl rfl) h0
  obtain ⟨a1, f1, r1'⟩ := arg_agg sh_fl ty_tagg_32 (hval 1 32 v1 rfl rfl) h1
  obtain ⟨a2, f2, r2'⟩ := arg_one sh_oct ty_tagg_25 (hval 2 25 v2 rfl rfl) h2
  obtain ⟨x, e0, hq0⟩ := arg_flsW f0
  rw [e0] at r0'
  obtain ⟨y, e1, hq1⟩ := arg_flW f1
  rw [e1] at r1'
  obtain ⟨z, e2, hq2⟩ := arg_octs f2
  rw [e2] at r2'
  refine (law_calls (WireDoes_ok x y z (fun f hf => (hq0.2 f hf).sum) (fun f hf => (hq0.2 f hf).rank) hq0.1 hq1.sum hq1.rank hq1.name hq2 none0 0) (ravs_cons (r0' _ _) (ravs_cons (r1' _ _) (ravs_cons (r2' _ _) ravs_nil)))).mono fun e W' ⟨he, hold⟩ => ?_
  exact ⟨_, he, law_post laid_out (by kernel_rfl) rfl (by kernel_rfl) Tryd.underlying4 hW' rfl rfl rfl hold⟩

theorem wireDoes_holds : Rows.WireDoesSaid :=
  OpenClaim.holds_of_wide 6 Tryd.f6 rfl rfl rfl rfl rfl rfl rfl ⟨rfl, rfl, rfl, rfl, rfl⟩ rfl rfl rfl rfl rfl (by kernel_rfl) Tryd.func6 (by kernel_rfl)
    (of_decide_eq_true (by kernel_rfl)) (by unfold Func.isWrapper; rw [if_neg (of_decide_eq_false (by kernel_rfl))]; exact ⟨rfl, rfl⟩)
    (fun os started H enc _ => wireDoes_lifted os started H enc)

theorem wireDoes_card : Rows.WireDoesCardSaid :=
  Claim7.holds_tied_plain_at .later [] [.data, .pinned] true Rows.wireDoesCard.stood.harness true
    wireDoes_holds (fun _ h => by cases h) (by kernel_rfl) (fun _ h => by cases h) wireDoes_row_tie rfl ⟨rfl, rfl⟩ (by kernel_rfl) rfl
    (fun f fn hf hfn => by
      obtain rfl : f = 6 := Option.some.inj ((show Tryd.prog.funcNamed "tansy/tansylaw14.WireDoes" = some 6 by kernel_rfl).symm.trans hf) |>.symm
      obtain rfl : fn = Tryd.f6 := (Option.some.inj (Tryd.func6.symm.trans hfn)).symm
      exact ⟨by kernel_rfl, fun j t ht => by
        rw [Tryd.params6] at ht
        have hm : t ∈ [22, 32, 25] := by simpa using Array.mem_of_getElem? ht
        have hall : ([22, 32, 25].all fun u => !Tryd.prog.wantsStandIn u) = true := by kernel_rfl
        exact (show Tryd.prog.wantsStandIn t = false by simpa using List.all_eq_true.1 hall t hm)⟩)
    (by kernel_rfl)

end Go.Proofs.YthnhpbihgalgeaaDoor
