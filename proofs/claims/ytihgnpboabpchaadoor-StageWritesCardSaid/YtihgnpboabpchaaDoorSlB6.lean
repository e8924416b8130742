/-
  The law StageWrites on stages: which names a stage writes.
-/
import Derived.Test.YtihgnpboabpchaaDoorSlB3
import Derived.Test.YtihgnpboabpchaaDoorSlB5

namespace Go.Proofs.YtihgnpboabpchaaDoor
set_option linter.unusedSimpArgs false
set_option linter.unusedVariables false
set_option linter.unnecessarySimpa false
open Go Am Go.ChangeShapes Go.WideShapes Go.ChangeAt Go.RowKit
set_option maxRecDepth 100000 in
theorem stageWrites_lifted (os : Os) (started : os.Started) (H : Type) (enc : TypeId × Value → H) :
    ReturnsInHanded {} Tryd.checked os 4 .any (fun w args => (Rows.stageWritesSpec.pre enc Tryd.prog Tryd.f4 [] false w args ∧ laidMetH Tryd.prog Rows.stageWritesRow.laid w) ∧ sizedMet enc Tryd.prog Tryd.f4 (OpenSpec.ofChange Rows.stageWritesSpec) false w args)
      (Rows.stageWritesSpec.post enc Tryd.prog Tryd.f4 false true false false) := by
  refine returnsInHanded_of_change_and (C := Tryd.checked) (X := fun w _ => laidMetH Tryd.prog Rows.stageWritesRow.laid w) (fun _ _ _ hh h => h.of_heap hh) own_knob started (by kernel_rfl) Tryd.func4
    (ChangeSpec.witness_shaped (enc := enc) (C := Tryd.checked) (os := os) (X := fun w _ => laidMetH Tryd.prog Rows.stageWritesRow.laid w) false (World.laidAll Tryd.prog os Rows.stageWritesRow.laid) #[.agg #[.int .u64 0, .slice none 0 0, .slice none 0 0, .slice none 0 0, .slice none 0 0], .string ⟨#[]⟩, .string ⟨#[]⟩, .slice none 0 0] 8 (World.laidAll_os _ _ _)
      (World.shaped_of_ZipB (by kernel_rfl) (by kernel_rfl)) (by kernel_rfl) (by kernel_rfl) (by kernel_rfl)
      (by rw [MakeChecks.laidMetH_plain _ _ _ (by kernel_rfl)]; exact laidMet_laidAll _ (by kernel_rfl) (by kernel_rfl))) ?_
  intro W base args ds gs before hval0 hW hcnd _ _ _
  have hval : ∀ (j : Nat) t v, Tryd.f4.params[j]? = some t → args[j]? = some v → Value.okWide Tryd.prog W .any base t v := hval0
  have hW' := hW
  obtain ⟨p, q, hA0, hV, rfl, hfz, hnd⟩ := hW
  have hA : DataW.TrodAll enc Tryd.prog W 0 (fun _ => true) true Tryd.f4.params.toList args.toList ds p := hA0
  rw [Tryd.params4] at hA hval
  obtain ⟨v0, v1, v2, v3, d0, d1, d2, d3, p0, p1, p2, p3, rfl, rfl, rfl, h0, h1, h2, h3⟩ := trodAll_four hA
  obtain ⟨rfl, rfl⟩ := trodVars_none hV
  obtain ⟨a0, f0, r0'⟩ := arg_agg sh_sg ty_tagg_29 (hval 0 29 v0 rfl rfl) h0
  obtain ⟨a1, f1, r1'⟩ := arg_one sh_str ty_tagg_9 (hval 1 9 v1 rfl rfl) h1
  obtain ⟨a2, f2, r2'⟩ := arg_one sh_str ty_tagg_9 (hval 2 9 v2 rfl rfl) h2
  obtain ⟨a3, f3, r3'⟩ := arg_one sh_oct ty_tagg_30 (hval 3 30 v3 rfl rfl) h3
  obtain ⟨s, e0, hq0⟩ := arg_sg f0
  rw [e0] at r0'
  obtain ⟨p, e1, hq1⟩ := arg_str f1
  rw [e1] at r1'
  obtain ⟨q, e2, hq2⟩ := arg_str f2
  rw [e2] at r2'
  obtain ⟨d, e3, hq3⟩ := arg_octs f3
  rw [e3] at r3'
  refine (law_calls (lwrites_ok s p q d hq0.1 hq0.2.1 hq0.2.2.1 hq0.2.2.2 none0 0) (ravs_cons (r0' _ _) (ravs_cons (r1' _ _) (ravs_cons (r2' _ _) (ravs_cons (r3' _ _) ravs_nil))))).mono fun e W' ⟨he, hold⟩ => ?_
  exact ⟨_, he, law_post laid_out (by kernel_rfl) rfl (by kernel_rfl) Tryd.underlying4 hW' rfl rfl rfl hold⟩
theorem stageWrites_holds : Rows.StageWritesSaid :=
  OpenClaim.holds_of_wide 4 Tryd.f4 rfl rfl rfl rfl rfl rfl rfl ⟨rfl, rfl, rfl, rfl, rfl⟩ rfl rfl rfl rfl rfl (by kernel_rfl) Tryd.func4 (by kernel_rfl)
    (of_decide_eq_true (by kernel_rfl)) (by unfold Func.isWrapper; rw [if_neg (of_decide_eq_false (by kernel_rfl))]; exact ⟨rfl, rfl⟩)
    (fun os started H enc _ => stageWrites_lifted os started H enc)
theorem stageWrites_card : Rows.StageWritesCardSaid :=
  Claim7.holds_tied_plain_at .later [] [.data, .pinned] true Rows.stageWritesCard.stood.harness false
    stageWrites_holds (fun _ h => by cases h) (by kernel_rfl) (fun _ h => by cases h) stageWrites_row_tie rfl ⟨rfl, rfl⟩ (by kernel_rfl) rfl
    (fun f fn hf hfn => by
      obtain rfl : f = 4 := Option.some.inj ((show Tryd.prog.funcNamed "tansy/tansylaw20.StageWrites" = some 4 by kernel_rfl).symm.trans hf) |>.symm
      obtain rfl : fn = Tryd.f4 := (Option.some.inj (Tryd.func4.symm.trans hfn)).symm
      exact ⟨by kernel_rfl, fun j t ht => by
        rw [Tryd.params4] at ht
        have hm : t ∈ [29, 9, 9, 30] := by simpa using Array.mem_of_getElem? ht
        have hall : ([29, 9, 9, 30].all fun u => !Tryd.prog.wantsStandIn u) = true := by kernel_rfl
        exact (show Tryd.prog.wantsStandIn t = false by simpa using List.all_eq_true.1 hall t hm)⟩)
    (by kernel_rfl)
end Go.Proofs.YtihgnpboabpchaaDoor
