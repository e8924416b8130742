/-
  tansylaw19.ValidTells is true for every input, and leaves it as it was: no condition; the tied card.
-/
import Derived.Test.YtengjcdilnikhaaDoorVaRow
import Derived.Test.YtengjcdilnikhaaDoorVaL5
namespace Go.Proofs.YtengjcdilnikhaaDoor
set_option linter.unusedSimpArgs false
set_option linter.unusedVariables false
set_option linter.unnecessarySimpa false
open Go Am Go.ChangeShapes Go.WideShapes Go.ChangeAt Go.RowKit

set_option maxRecDepth 100000 in
theorem validTells_lifted (os : Os) (started : os.Started) (H : Type) (enc : TypeId × Value → H) :
    ReturnsInHanded {} Tryd.checked os 4 .any (fun w args => (Rows.validTellsSpec.pre enc Tryd.prog Tryd.f4 [] false w args ∧ laidMetH Tryd.prog Rows.validTellsRow.laid w) ∧ sizedMet enc Tryd.prog Tryd.f4 (OpenSpec.ofChange Rows.validTellsSpec) false w args)
      (Rows.validTellsSpec.post enc Tryd.prog Tryd.f4 false true false false) := by
  refine returnsInHanded_of_change_and (C := Tryd.checked) (X := fun w _ => laidMetH Tryd.prog Rows.validTellsRow.laid w) (fun _ _ _ hh h => h.of_heap hh) own_knob started (by kernel_rfl) Tryd.func4
    (ChangeSpec.witness_shaped (enc := enc) (C := Tryd.checked) (os := os) (X := fun w _ => laidMetH Tryd.prog Rows.validTellsRow.laid w) false (World.laidAll Tryd.prog os Rows.validTellsRow.laid) #[.slice none 0 0, .int .u64 0, .agg #[.slice none 0 0, .slice none 0 0], .slice none 0 0] 8 (World.laidAll_os _ _ _)
      (World.shaped_of_ZipB (by kernel_rfl) (by kernel_rfl)) (by kernel_rfl) (by kernel_rfl) (by kernel_rfl)
      (by rw [MakeChecks.laidMetH_plain _ _ _ (by kernel_rfl)]; exact laidMet_laidAll _ (by kernel_rfl) (by kernel_rfl))) ?_
  intro W base args ds gs before hval0 hW hcnd _ _ _
  have hval : ∀ (j : Nat) t v, Tryd.f4.params[j]? = some t → args[j]? = some v → Value.okWide Tryd.prog W .any base t v := hval0
  have hW' := hW
  obtain ⟨p, q, hA0, hV, rfl, hfz, hnd⟩ := hW
  have hA : DataW.TrodAll enc Tryd.prog W 0 (fun _ => true) true Tryd.f4.params.toList args.toList ds p := hA0
  rw [Tryd.params4] at hA hval
  obtain ⟨v0, v1, v2, v3, d0, d1, d2, d3, p0, p1, p2, p3, rfl, rfl, rfl, h0, h1, h2, h3⟩ := trodAll_four hA
  obtain ⟨rfl, rfl⟩ := trodVars_none hV
  obtain ⟨a0, f0, r0'⟩ := arg_one sh_dones ty_tagg_22 (hval 0 22 v0 rfl rfl) h0
  obtain ⟨a1, f1, r1'⟩ := arg_one sh_u64 ty_tagg_26 (hval 1 26 v1 rfl rfl) h1
  obtain ⟨a2, f2, r2'⟩ := arg_agg sh_reads ty_tagg_25 (hval 2 25 v2 rfl rfl) h2
  obtain ⟨a3, f3, r3'⟩ := arg_one sh_strs ty_tagg_23 (hval 3 23 v3 rfl rfl) h3
  obtain ⟨l, e0, hq0⟩ := arg_dones f0
  rw [e0] at r0'
  obtain ⟨g, e1, hq1⟩ := arg_u64 f1
  rw [e1] at r1'
  obtain ⟨x, e2, hq2⟩ := arg_reads f2
  rw [e2] at r2'
  obtain ⟨q, e3, hq3⟩ := arg_strs f3
  rw [e3] at r3'
  refine (law_calls (ValidTells_ok l g x.1 x.2 q hq0.1 (fun d hd => (hq0.2 d hd).1) hq2.1 hq2.2 hq3 none0 0) (ravs_cons (r0' _ _) (ravs_cons (r1' _ _) (ravs_cons (r2' _ _) (ravs_cons (r3' _ _) ravs_nil))))).mono fun e W' ⟨he, hold⟩ => ?_
  exact ⟨_, he, law_post laid_out (by kernel_rfl) rfl (by kernel_rfl) Tryd.underlying4 hW' rfl rfl rfl hold⟩

theorem validTells_holds : Rows.ValidTellsSaid :=
  OpenClaim.holds_of_wide 4 Tryd.f4 rfl rfl rfl rfl rfl rfl rfl ⟨rfl, rfl, rfl, rfl, rfl⟩ rfl rfl rfl rfl rfl (by kernel_rfl) Tryd.func4 (by kernel_rfl)
    (of_decide_eq_true (by kernel_rfl)) (by unfold Func.isWrapper; rw [if_neg (of_decide_eq_false (by kernel_rfl))]; exact ⟨rfl, rfl⟩)
    (fun os started H enc _ => validTells_lifted os started H enc)

theorem validTells_card : Rows.ValidTellsCardSaid :=
  Claim7.holds_tied_plain_at .later [] [.data, .pinned] true Rows.validTellsCard.stood.harness false
    validTells_holds (fun _ h => by cases h) (by kernel_rfl) (fun _ h => by cases h) validTells_row_tie rfl ⟨rfl, rfl⟩ (by kernel_rfl) rfl
    (fun f fn hf hfn => by
      obtain rfl : f = 4 := Option.some.inj ((show Tryd.prog.funcNamed "tansy/tansylaw19.ValidTells" = some 4 by kernel_rfl).symm.trans hf) |>.symm
      obtain rfl : fn = Tryd.f4 := (Option.some.inj (Tryd.func4.symm.trans hfn)).symm
      exact ⟨by kernel_rfl, fun j t ht => by
        rw [Tryd.params4] at ht
        have hm : t ∈ [22, 26, 25, 23] := by simpa using Array.mem_of_getElem? ht
        have hall : ([22, 26, 25, 23].all fun u => !Tryd.prog.wantsStandIn u) = true := by kernel_rfl
        exact (show Tryd.prog.wantsStandIn t = false by simpa using List.all_eq_true.1 hall t hm)⟩)
    (by kernel_rfl)

end Go.Proofs.YtengjcdilnikhaaDoor
