/-
  The law StageBack on stages: what is moved and moved back is what it was.
-/
import Derived.Test.YtihgnpboabpchaaDoorSkB3
import Derived.Test.YtihgnpboabpchaaDoorSkB5

namespace Go.Proofs.YtihgnpboabpchaaDoor
set_option linter.unusedSimpArgs false
set_option linter.unusedVariables false
set_option linter.unnecessarySimpa false
open Go Am Go.ChangeShapes Go.WideShapes Go.ChangeAt Go.RowKit
set_option maxRecDepth 100000 in
theorem stageBack_lifted (os : Os) (started : os.Started) (H : Type) (enc : TypeId × Value → H) :
    ReturnsInHanded {} Tryd.checked os 3 .any (fun w args => (Rows.stageBackSpec.pre enc Tryd.prog Tryd.f3 [] false w args ∧ laidMetH Tryd.prog Rows.stageBackRow.laid w) ∧ sizedMet enc Tryd.prog Tryd.f3 (OpenSpec.ofChange Rows.stageBackSpec) false w args)
      (Rows.stageBackSpec.post enc Tryd.prog Tryd.f3 false true false false) := by
  refine returnsInHanded_of_change_and (C := Tryd.checked) (X := fun w _ => laidMetH Tryd.prog Rows.stageBackRow.laid w) (fun _ _ _ hh h => h.of_heap hh) own_knob started (by kernel_rfl) Tryd.func3
    (ChangeSpec.witness_shaped (enc := enc) (C := Tryd.checked) (os := os) (X := fun w _ => laidMetH Tryd.prog Rows.stageBackRow.laid w) false (World.laidAll Tryd.prog os Rows.stageBackRow.laid) #[.agg #[.int .u64 0, .slice none 0 0, .slice none 0 0, .slice none 0 0, .slice none 0 0], .string ⟨#[]⟩, .string ⟨#[]⟩, .slice none 0 0, .slice none 0 0] 8 (World.laidAll_os _ _ _)
      (World.shaped_of_ZipB (by kernel_rfl) (by kernel_rfl)) (by kernel_rfl) (by kernel_rfl) (by kernel_rfl)
      (by rw [MakeChecks.laidMetH_plain _ _ _ (by kernel_rfl)]; exact laidMet_laidAll _ (by kernel_rfl) (by kernel_rfl))) ?_
  intro W base args ds gs before hval0 hW hcnd _ _ _
  have hval : ∀ (j : Nat) t v, Tryd.f3.params[j]? = some t → args[j]? = some v → Value.okWide Tryd.prog W .any base t v := hval0
  have hW' := hW
  obtain ⟨p, q, hA0, hV, rfl, hfz, hnd⟩ := hW
  have hA : DataW.TrodAll enc Tryd.prog W 0 (fun _ => true) true Tryd.f3.params.toList args.toList ds p := hA0
  rw [Tryd.params3] at hA hval
  obtain ⟨v0, vs0, d0, ds0, p0, q0, hargs, rfl, rfl, h0, r0⟩ := trodAll_cons hA
  obtain ⟨v1, vs1, d1, ds1, p1, q1, rfl, rfl, rfl, h1, r1⟩ := trodAll_cons r0
  obtain ⟨v2, vs2, d2, ds2, p2, q2, rfl, rfl, rfl, h2, r2⟩ := trodAll_cons r1
  obtain ⟨v3, vs3, d3, ds3, p3, q3, rfl, rfl, rfl, h3, r3⟩ := trodAll_cons r2
  obtain ⟨v4, vs4, d4, ds4, p4, q4, rfl, rfl, rfl, h4, r4⟩ := trodAll_cons r3
  obtain ⟨rfl, rfl, rfl⟩ := trodAll_nil r4
  have hargs' : args = #[v0, v1, v2, v3, v4] := by cases args; simp_all
  subst hargs'
  obtain ⟨rfl, rfl⟩ := trodVars_none hV
  obtain ⟨a0, f0, r0'⟩ := arg_agg sh_sg ty_tagg_29 (hval 0 29 v0 rfl rfl) h0
  obtain ⟨a1, f1, r1'⟩ := arg_one sh_str ty_tagg_9 (hval 1 9 v1 rfl rfl) h1
  obtain ⟨a2, f2, r2'⟩ := arg_one sh_str ty_tagg_9 (hval 2 9 v2 rfl rfl) h2
  obtain ⟨a3, f3, r3'⟩ := arg_one sh_oct ty_tagg_30 (hval 3 30 v3 rfl rfl) h3
  obtain ⟨a4, f4, r4'⟩ := arg_one sh_oct ty_tagg_30 (hval 4 30 v4 rfl rfl) h4
  obtain ⟨s, e0, hq0⟩ := arg_sg f0
  rw [e0] at r0'
  obtain ⟨p, e1, hq1⟩ := arg_str f1
  rw [e1] at r1'
  obtain ⟨q, e2, hq2⟩ := arg_str f2
  rw [e2] at r2'
  obtain ⟨d1, e3, hq3⟩ := arg_octs f3
  rw [e3] at r3'
  obtain ⟨d2, e4, hq4⟩ := arg_octs f4
  rw [e4] at r4'
  refine (law_calls (lback_ok s p q d1 d2 hq0.1 hq0.2.1 hq0.2.2.1 hq0.2.2.2 none0 0) (ravs_cons (r0' _ _) (ravs_cons (r1' _ _) (ravs_cons (r2' _ _) (ravs_cons (r3' _ _) (ravs_cons (r4' _ _) ravs_nil)))))).mono fun e W' ⟨he, hold⟩ => ?_
  exact ⟨_, he, law_post laid_out (by kernel_rfl) rfl (by kernel_rfl) Tryd.underlying4 hW' rfl rfl rfl hold⟩
theorem stageBack_holds : Rows.StageBackSaid :=
  OpenClaim.holds_of_wide 3 Tryd.f3 rfl rfl rfl rfl rfl rfl rfl ⟨rfl, rfl, rfl, rfl, rfl⟩ rfl rfl rfl rfl rfl (by kernel_rfl) Tryd.func3 (by kernel_rfl)
    (of_decide_eq_true (by kernel_rfl)) (by unfold Func.isWrapper; rw [if_neg (of_decide_eq_false (by kernel_rfl))]; exact ⟨rfl, rfl⟩)
    (fun os started H enc _ => stageBack_lifted os started H enc)
theorem stageBack_card : Rows.StageBackCardSaid :=
  Claim7.holds_tied_plain_at .later [] [.data, .pinned] true Rows.stageBackCard.stood.harness false
    stageBack_holds (fun _ h => by cases h) (by kernel_rfl) (fun _ h => by cases h) stageBack_row_tie rfl ⟨rfl, rfl⟩ (by kernel_rfl) rfl
    (fun f fn hf hfn => by
      obtain rfl : f = 3 := Option.some.inj ((show Tryd.prog.funcNamed "tansy/tansylaw20.StageBack" = some 3 by kernel_rfl).symm.trans hf) |>.symm
      obtain rfl : fn = Tryd.f3 := (Option.some.inj (Tryd.func3.symm.trans hfn)).symm
      exact ⟨by kernel_rfl, fun j t ht => by
        rw [Tryd.params3] at ht
        have hm : t ∈ [29, 9, 9, 30, 30] := by simpa using Array.mem_of_getElem? ht
        have hall : ([29, 9, 9, 30, 30].all fun u => !Tryd.prog.wantsStandIn u) = true := by kernel_rfl
        exact (show Tryd.prog.wantsStandIn t = false by simpa using List.all_eq_true.1 hall t hm)⟩)
    (by kernel_rfl)
end Go.Proofs.YtihgnpboabpchaaDoor
