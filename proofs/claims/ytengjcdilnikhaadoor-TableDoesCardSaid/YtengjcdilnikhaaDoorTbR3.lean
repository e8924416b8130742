/-
  tansylaw13.TableDoes is true for every input, and leaves it as it was: no condition; the tied card.
-/
import Derived.Test.YtengjcdilnikhaaDoorTbRow
import Derived.Test.YtengjcdilnikhaaDoorTbL3
namespace Go.Proofs.YtengjcdilnikhaaDoor
set_option linter.unusedSimpArgs false
set_option linter.unusedVariables false
set_option linter.unnecessarySimpa false
open Go Am Go.ChangeShapes Go.WideShapes Go.ChangeAt Go.RowKit

set_option maxRecDepth 100000 in
theorem tableDoes_lifted (os : Os) (started : os.Started) (H : Type) (enc : TypeId × Value → H) :
    ReturnsInHanded {} Tryd.checked os 12 .any (fun w args => (Rows.tableDoesSpec.pre enc Tryd.prog Tryd.f12 [] false w args ∧ laidMetH Tryd.prog Rows.tableDoesRow.laid w) ∧ sizedMet enc Tryd.prog Tryd.f12 (OpenSpec.ofChange Rows.tableDoesSpec) false w args)
      (Rows.tableDoesSpec.post enc Tryd.prog Tryd.f12 false true false false) := by
  refine returnsInHanded_of_change_and (C := Tryd.checked) (X := fun w _ => laidMetH Tryd.prog Rows.tableDoesRow.laid w) (fun _ _ _ hh h => h.of_heap hh) own_knob started (by kernel_rfl) Tryd.func12
    (ChangeSpec.witness_shaped (enc := enc) (C := Tryd.checked) (os := os) (X := fun w _ => laidMetH Tryd.prog Rows.tableDoesRow.laid w) false (World.laidAll Tryd.prog os Rows.tableDoesRow.laid) #[.slice none 0 0, .slice none 0 0, .agg #[.string ⟨#[]⟩, .float .f64 0, .int .u32 0, .int .i64 0, .int .i64 0, .int .i64 0], .string ⟨#[]⟩, .string ⟨#[]⟩] 8 (World.laidAll_os _ _ _)
      (World.shaped_of_ZipB (by kernel_rfl) (by kernel_rfl)) (by kernel_rfl) (by kernel_rfl) (by kernel_rfl)
      (by rw [MakeChecks.laidMetH_plain _ _ _ (by kernel_rfl)]; exact laidMet_laidAll _ (by kernel_rfl) (by kernel_rfl))) ?_
  intro W base args ds gs before hval0 hW hcnd _ _ _
  have hval : ∀ (j : Nat) t v, Tryd.f12.params[j]? = some t → args[j]? = some v → Value.okWide Tryd.prog W .any base t v := hval0
  have hW' := hW
  obtain ⟨p, q, hA0, hV, rfl, hfz, hnd⟩ := hW
  have hA : DataW.TrodAll enc Tryd.prog W 0 (fun _ => true) true Tryd.f12.params.toList args.toList ds p := hA0
  rw [Tryd.params12] at hA hval
  obtain ⟨v0, vs0, d0, ds0, p0, q0, hargs, rfl, rfl, h0, r0⟩ := trodAll_cons hA
  obtain ⟨v1, vs1, d1, ds1, p1, q1, rfl, rfl, rfl, h1, r1⟩ := trodAll_cons r0
  obtain ⟨v2, vs2, d2, ds2, p2, q2, rfl, rfl, rfl, h2, r2⟩ := trodAll_cons r1
  obtain ⟨v3, vs3, d3, ds3, p3, q3, rfl, rfl, rfl, h3, r3⟩ := trodAll_cons r2
  obtain ⟨v4, vs4, d4, ds4, p4, q4, rfl, rfl, rfl, h4, r4⟩ := trodAll_cons r3
  obtain ⟨rfl, rfl, rfl⟩ := trodAll_nil r4
  have hargs' : args = #[v0, v1, v2, v3, v4] := by cases args; simp_all
  subst hargs'
  obtain ⟨rfl, rfl⟩ := trodVars_none hV
  obtain ⟨a0, f0, r0'⟩ := arg_one sh_fls ty_tagg_53 (hval 0 53 v0 rfl rfl) h0
  obtain ⟨a1, f1, r1'⟩ := arg_one sh_fls ty_tagg_53 (hval 1 53 v1 rfl rfl) h1
  obtain ⟨a2, f2, r2'⟩ := arg_agg sh_fl ty_tagg_60 (hval 2 60 v2 rfl rfl) h2
  obtain ⟨a3, f3, r3'⟩ := arg_one sh_str ty_tagg_9 (hval 3 9 v3 rfl rfl) h3
  obtain ⟨a4, f4, r4'⟩ := arg_one sh_str ty_tagg_9 (hval 4 9 v4 rfl rfl) h4
  obtain ⟨l, e0, hq0⟩ := arg_fls2 f0
  rw [e0] at r0'
  obtain ⟨o, e1, hq1⟩ := arg_fls2 f1
  rw [e1] at r1'
  obtain ⟨f, e2, hq2⟩ := arg_fl f2
  rw [e2] at r2'
  obtain ⟨s, e3, hq3⟩ := arg_str f3
  rw [e3] at r3'
  obtain ⟨u, e4, hq4⟩ := arg_str f4
  rw [e4] at r4'
  refine (law_calls (TableDoes_ok l o f s u hq0.1 hq1.1 hq2 hq3 hq4 hq0.2 hq1.2 none0 0) (ravs_cons (r0' _ _) (ravs_cons (r1' _ _) (ravs_cons (r2' _ _) (ravs_cons (r3' _ _) (ravs_cons (r4' _ _) ravs_nil)))))).mono fun e W' ⟨he, hold⟩ => ?_
  exact ⟨_, he, law_post laid_out (by kernel_rfl) rfl (by kernel_rfl) Tryd.underlying4 hW' rfl rfl rfl hold⟩

theorem tableDoes_holds : Rows.TableDoesSaid :=
  OpenClaim.holds_of_wide 12 Tryd.f12 rfl rfl rfl rfl rfl rfl rfl ⟨rfl, rfl, rfl, rfl, rfl⟩ rfl rfl rfl rfl rfl (by kernel_rfl) Tryd.func12 (by kernel_rfl)
    (of_decide_eq_true (by kernel_rfl)) (by unfold Func.isWrapper; rw [if_neg (of_decide_eq_false (by kernel_rfl))]; exact ⟨rfl, rfl⟩)
    (fun os started H enc _ => tableDoes_lifted os started H enc)

theorem tableDoes_card : Rows.TableDoesCardSaid :=
  Claim7.holds_tied_plain_at .later [] [.data, .pinned] true Rows.tableDoesCard.stood.harness false
    tableDoes_holds (fun _ h => by cases h) (by kernel_rfl) (fun _ h => by cases h) tableDoes_row_tie rfl ⟨rfl, rfl⟩ (by kernel_rfl) rfl
    (fun f fn hf hfn => by
      obtain rfl : f = 12 := Option.some.inj ((show Tryd.prog.funcNamed "tansy/tansylaw13.TableDoes" = some 12 by kernel_rfl).symm.trans hf) |>.symm
      obtain rfl : fn = Tryd.f12 := (Option.some.inj (Tryd.func12.symm.trans hfn)).symm
      exact ⟨by kernel_rfl, fun j t ht => by
        rw [Tryd.params12] at ht
        have hm : t ∈ [53, 53, 60, 9, 9] := by simpa using Array.mem_of_getElem? ht
        have hall : ([53, 53, 60, 9, 9].all fun u => !Tryd.prog.wantsStandIn u) = true := by kernel_rfl
        exact (show Tryd.prog.wantsStandIn t = false by simpa using List.all_eq_true.1 hall t hm)⟩)
    (by kernel_rfl)

end Go.Proofs.YtengjcdilnikhaaDoor
