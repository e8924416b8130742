/-
  Walks of valid's laws: the example.
-/
import Derived.Test.YtengjcdilnikhaaDoorVaW1
namespace Go.Proofs.YtengjcdilnikhaaDoor
set_option linter.unusedSimpArgs false
set_option linter.unusedVariables false
set_option linter.unnecessarySimpa false
open Go Am
set_option maxRecDepth 100000

/-- a literal's one name, as one who only reads sees it -/
theorem view_one {h : Heap} {D : Nat → Bool} {id : Nat} (p : PD) (ho : okPD p = true) (hD : D id = true) (hb : h id = some ⟨0, [.p p]⟩) : ViewC h D (.win id 0 0 1 1) (.p (.sl 1 [[p]])) :=
  @view_row h D id 0 1 1 0 0 1 [[p]] [] hD (by rw [hb]; rfl) (by intro e he; simp at he; subst he; exact ⟨rfl, by simpa using ho⟩) (by simp) rfl

def lv1 : S := [97, 47, 98]
theorem add_lv : addR [] 5 [lv1] = ([⟨5, [lv1]⟩], 0) := by
  unfold addR
  rw [if_neg (by simp; decide), if_neg (by decide)]; rfl
theorem clash_lv : clashR [⟨5, [lv1]⟩] 4 [] [[97]] = (5, 9) := by decide

theorem live_ok (h : Heap) (b : Nat) : ACalls Tryd.prog 15 [] h b 0 (fun r h' => r = BoolV true ∧ h' = h) := by
  refine ACalls.enter Tryd.func15 rfl (by simp [Tryd.ntmps15]) (fun ι w hn H => ?_)
  have hlv : PD.v (Value.string ⟨#[97, 47, 98]⟩) = .v (.string (mkS lv1)) := rfl
  have hl2 : PD.v (Value.string ⟨#[97]⟩) = .v (.string (mkS [97])) := rfl
  have cadd : ∀ (hh : Heap) (b' : Nat), ACalls Tryd.prog 26 [.one (.p (.v (.slice none 0 0))), U64V 5, .one (.win b 0 0 1 1)] (upd hh b ⟨0, [.p (.v (.string (mkS lv1)))]⟩) b' 0 (fun r h' => r = .tup [DonesV [⟨5, [lv1]⟩], IntV 0] ∧ h' = delP (upd hh b ⟨0, [.p (.v (.string (mkS lv1)))]⟩) (fun i => decide (i = b))) := by
    intro hh b'
    have c := vAdd_ok [] 5 [lv1] ⟨by simp, by simp⟩ (by simp) (by simp) (delP (upd hh b ⟨0, [.p (.v (.string (mkS lv1)))]⟩) (fun i => decide (i = b))) b'
    rw [add_lv] at c
    exact c.seal (fun i => decide (i = b)) (.cons (.one (.p (.nil 2))) (.cons (.same _) (.cons (.one (view_one _ rfl (by simp) (upd_same _ _ _))) .nil)))
  have cclash : ∀ (hh : Heap) (b' : Nat), ACalls Tryd.prog 20 [DonesV [⟨5, [lv1]⟩], U64V 4, .agg [.p (.v (.slice none 0 0)), .win (b + 1) 0 0 1 1]] (upd hh (b + 1) ⟨0, [.p (.v (.string (mkS [97])))]⟩) b' 0 (fun r h' => r = .tup [U64V 5, IntV 9] ∧ h' = upd hh (b + 1) ⟨0, [.p (.v (.string (mkS [97])))]⟩) := by
    intro hh b'
    have c := vClash_ok [⟨5, [lv1]⟩] 4 [] [[97]] ⟨by simp, by simp⟩ (by simp) (by simp) noH b'
    rw [clash_lv] at c
    refine c.lend (.cons (.same _) (.cons (.same _) (.cons (.agg rfl ?_) .nil))) (.tup (by simp))
    intro i c d hc hd
    match i with
    | 0 => simp at hc hd; subst hc; subst hd; exact .p (.nil 1)
    | 1 => simp at hc hd; subst hc; subst hd; exact view_one _ rfl rfl (upd_same _ _ _)
    | i + 2 => simp at hc
  refine AWP.seqReg (by kernel_rfl) (fun E K hE hK => ?_); simp -implicitDefEqProofs only [go_sem, ↓reduceIte, Nat.reduceEqDiff, Nat.reduceAdd, Nat.reduceMul, Nat.reduceLT, Nat.reduceLeDiff, reduceCtorEq, Int.toNat_natCast]; refine hK _ _ _ ?_; clear hE hK K E
  refine AWP.seqReg (by kernel_rfl) (fun E K hE hK => ?_); simp -implicitDefEqProofs only [go_sem, ↓reduceIte, Nat.reduceEqDiff, Nat.reduceAdd, Nat.reduceMul, Nat.reduceLT, Nat.reduceLeDiff, reduceCtorEq, Int.toNat_natCast]
  rw [hlv]
  refine CallR.use (cadd _ _) body_26 ?_; rintro _ h_ ⟨rfl, e_⟩; rw [e_]; clear e_ h_; simp -implicitDefEqProofs only [go_sem, ↓reduceIte, Nat.reduceEqDiff, Nat.reduceAdd, Nat.reduceMul, Nat.reduceLT, Nat.reduceLeDiff, reduceCtorEq, Int.toNat_natCast]
  refine hK _ _ _ ?_; clear hE hK K E
  refine AWP.seqReg (by kernel_rfl) (fun E K hE hK => ?_); simp -implicitDefEqProofs only [go_sem, ↓reduceIte, Nat.reduceEqDiff, Nat.reduceAdd, Nat.reduceMul, Nat.reduceLT, Nat.reduceLeDiff, reduceCtorEq, Int.toNat_natCast]
  rw [hl2]
  refine CallR.use (cclash _ _) body_20 ?_; rintro _ h_ ⟨rfl, e_⟩; rw [e_]; clear e_ h_; simp -implicitDefEqProofs only [go_sem, ↓reduceIte, Nat.reduceEqDiff, Nat.reduceAdd, Nat.reduceMul, Nat.reduceLT, Nat.reduceLeDiff, reduceCtorEq, Int.toNat_natCast]
  refine hK _ _ _ ?_; clear hE hK K E
  refine AWP.seqReg (by kernel_rfl) (fun E K hE hK => ?_); simp -implicitDefEqProofs only [go_sem, ↓reduceIte, Nat.reduceEqDiff, Nat.reduceAdd, Nat.reduceMul, Nat.reduceLT, Nat.reduceLeDiff, reduceCtorEq, Int.toNat_natCast]; refine hK _ _ _ ?_; clear hE hK K E
  refine AWP.ret ?_
  simp -implicitDefEqProofs only [go_sem, ↓reduceIte, Nat.reduceEqDiff, Nat.reduceAdd, Nat.reduceMul, Nat.reduceLT, Nat.reduceLeDiff, reduceCtorEq, Int.toNat_natCast]
  exact Ends.pure hn H (fun id (hid : id < b) => by simp -implicitDefEqProofs only [go_sem, ↓reduceIte, Nat.reduceEqDiff, Nat.reduceAdd, Nat.reduceMul, Nat.reduceLT, Nat.reduceLeDiff, reduceCtorEq, Int.toNat_natCast, delP, show ¬ id = b by omega, show ¬ id = b + 1 by omega, decide_false, decide_eq_true_eq]) (r0 := BoolV true) (by rw [show Tryd.f15.results.toList = [.tmp 0] from rfl]; (first | (simp -implicitDefEqProofs only [go_sem, ↓reduceIte, Nat.reduceEqDiff, Nat.reduceAdd, Nat.reduceMul, Nat.reduceLT, Nat.reduceLeDiff, reduceCtorEq, Int.toNat_natCast]; done) | (simp -implicitDefEqProofs only [go_sem, ↓reduceIte, Nat.reduceEqDiff, Nat.reduceAdd, Nat.reduceMul, Nat.reduceLT, Nat.reduceLeDiff, reduceCtorEq, Int.toNat_natCast]; rfl) | rfl)) (.v _) ⟨rfl, rfl⟩
end Go.Proofs.YtengjcdilnikhaaDoor
