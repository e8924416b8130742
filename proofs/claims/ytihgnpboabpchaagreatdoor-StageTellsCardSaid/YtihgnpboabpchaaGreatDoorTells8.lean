/-
 The walks of package stage and of its reference, and what StageTells says.
-/
import Derived.Test.YtihgnpboabpchaaGreatDoorTells3
import Derived.Test.YtihgnpboabpchaaGreatDoorTells7
namespace Go.Proofs.YtihgnpboabpchaaGreatDoor
set_option linter.unusedSimpArgs false
set_option linter.unusedVariables false
set_option linter.unnecessarySimpa false
open Go Am Go.ChangeShapes Go.WideShapes Go.ChangeAt Go.RowKit
set_option maxRecDepth 100000 in
theorem stageTells_lifted (os : Os) (started : os.Started) (H : Type) (enc : TypeId × Value → H) :
  ReturnsInHanded {} Tryz.checked os 8 .any (fun w args => (Rows.stageTellsSpec.pre enc Tryz.prog Tryz.f8 [] false w args ∧ laidMetH Tryz.prog Rows.stageTellsRow.laid w) ∧ sizedMet enc Tryz.prog Tryz.f8 (OpenSpec.ofChange Rows.stageTellsSpec) false w args)
   (Rows.stageTellsSpec.post enc Tryz.prog Tryz.f8 false true false false) := by
 refine returnsInHanded_of_change_and (C := Tryz.checked) (X := fun w _ => laidMetH Tryz.prog Rows.stageTellsRow.laid w) (fun _ _ _ hh h => h.of_heap hh) own_knob started (by kernel_rfl) Tryz.func8
  (ChangeSpec.witness_shaped (enc := enc) (C := Tryz.checked) (os := os) (X := fun w _ => laidMetH Tryz.prog Rows.stageTellsRow.laid w) false (World.laidAll Tryz.prog os Rows.stageTellsRow.laid) #[.agg #[.int .u64 0, .slice none 0 0, .slice none 0 0, .slice none 0 0, .slice none 0 0], .string ⟨#[]⟩, .string ⟨#[]⟩] 8 (World.laidAll_os _ _ _)
   (World.shaped_of_ZipB (by kernel_rfl) (by kernel_rfl)) (by kernel_rfl) (by kernel_rfl) (by kernel_rfl)
   (by rw [MakeChecks.laidMetH_plain _ _ _ (by kernel_rfl)]; exact laidMet_laidAll _ (by kernel_rfl) (by kernel_rfl))) ?_
 intro W base args ds gs before hval0 hW hcnd _ _ _
 have hval : ∀ (j : Nat) t v, Tryz.f8.params[j]? = some t → args[j]? = some v → Value.okWide Tryz.prog W .any base t v := hval0
 have hW' := hW
 obtain ⟨p, q, hA0, hV, rfl, hfz, hnd⟩ := hW
 have hA : DataW.TrodAll enc Tryz.prog W 0 (fun _ => true) true Tryz.f8.params.toList args.toList ds p := hA0
 rw [Tryz.params8] at hA hval
 obtain ⟨v0, v1, v2, d0, d1, d2, p0, p1, p2, rfl, rfl, rfl, h0, h1, h2⟩ := trodAll_three hA
 obtain ⟨rfl, rfl⟩ := trodVars_none hV
 obtain ⟨a0, f0, r0'⟩ := arg_agg sh_sg ty_tagg_63 (hval 0 63 v0 rfl rfl) h0
 obtain ⟨a1, f1, r1'⟩ := arg_one sh_str ty_tagg_9 (hval 1 9 v1 rfl rfl) h1
 obtain ⟨a2, f2, r2'⟩ := arg_one sh_str ty_tagg_9 (hval 2 9 v2 rfl rfl) h2
 obtain ⟨s, e0, hq0⟩ := arg_sg2 f0
 rw [e0] at r0'
 obtain ⟨p, e1, hq1⟩ := arg_str f1
 rw [e1] at r1'
 obtain ⟨dir, e2, hq2⟩ := arg_str f2
 rw [e2] at r2'
 refine (law_calls (ltells_ok s p dir hq0.1 hq0.2.1 hq0.2.2.1 hq0.2.2.2.1 hq0.2.2.2.2 none0 0) (ravs_cons (r0' _ _) (ravs_cons (r1' _ _) (ravs_cons (r2' _ _) ravs_nil)))).mono fun e W' ⟨he, hold⟩ => ?_
 exact ⟨_, he, law_post laid_out (by kernel_rfl) rfl (by kernel_rfl) Tryz.underlying4 hW' rfl rfl rfl hold⟩
theorem stageTells_holds : Rows.StageTellsSaid :=
 OpenClaim.holds_of_wide 8 Tryz.f8 rfl rfl rfl rfl rfl rfl rfl ⟨rfl, rfl, rfl, rfl, rfl⟩ rfl rfl rfl rfl rfl (by kernel_rfl) Tryz.func8 (by kernel_rfl)
  (of_decide_eq_true (by kernel_rfl)) (by unfold Func.isWrapper; rw [if_neg (of_decide_eq_false (by kernel_rfl))]; exact ⟨rfl, rfl⟩)
  (fun os started H enc _ => stageTells_lifted os started H enc)
theorem stageTells_card : Rows.StageTellsCardSaid :=
 Claim7.holds_tied_plain_at .later [] [.data, .pinned] true Rows.stageTellsCard.stood.harness false
  stageTells_holds (fun _ h => by cases h) (by kernel_rfl) (fun _ h => by cases h) stageTells_row_tie rfl ⟨rfl, rfl⟩ (by kernel_rfl) rfl
  (fun f fn hf hfn => by
   obtain rfl : f = 8 := Option.some.inj ((show Tryz.prog.funcNamed "tansy/tansylaw20.StageTells" = some 8 by kernel_rfl).symm.trans hf) |>.symm
   obtain rfl : fn = Tryz.f8 := (Option.some.inj (Tryz.func8.symm.trans hfn)).symm
   exact ⟨by kernel_rfl, fun j t ht => by
    rw [Tryz.params8] at ht
    have hm : t ∈ [63, 9, 9] := by simpa using Array.mem_of_getElem? ht
    have hall : ([63, 9, 9].all fun u => !Tryz.prog.wantsStandIn u) = true := by kernel_rfl
    exact (show Tryz.prog.wantsStandIn t = false by simpa using List.all_eq_true.1 hall t hm)⟩)
  (by kernel_rfl)
end Go.Proofs.YtihgnpboabpchaaGreatDoor
