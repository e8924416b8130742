/-
  Walks of package extent: end, fits, Check.
-/
import Derived.Test.YtdannmfdenlikaaExtSpec
import Derived.Test.YtdannmfdenlikaaAmTy
namespace Go.Proofs.Ytdannmfdenlikaa
set_option linter.unusedSimpArgs false
set_option linter.unusedVariables false
set_option linter.unnecessarySimpa false
open Go Am
set_option maxRecDepth 100000

theorem end_ok (e : Ext) (h : Heap) (b : Nat) : ACalls Try.prog 28 [ExtV e] h b 0 (fun r h' => r = IntV (endW e) ∧ h' = h) := by
  refine ACalls.enter Try.func28 rfl (by simp [Try.ntmps28]) (fun ι w hn H => ?_)
  unfold ExtV
  refine AWP.seqReg (by kernel_rfl) (fun E K hE hK => ?_); simp -implicitDefEqProofs only [go_sem, ↓reduceIte, Nat.reduceEqDiff, Nat.reduceAdd, Nat.reduceMul, Nat.reduceLT, Nat.reduceLeDiff, reduceCtorEq, Int.toNat_natCast]; refine hK _ _ _ ?_; clear hE hK K E
  refine AWP.seqReg (by kernel_rfl) (fun E K hE hK => ?_); simp -implicitDefEqProofs only [go_sem, ↓reduceIte, Nat.reduceEqDiff, Nat.reduceAdd, Nat.reduceMul, Nat.reduceLT, Nat.reduceLeDiff, reduceCtorEq, Int.toNat_natCast]; refine hK _ _ _ ?_; clear hE hK K E
  refine AWP.ret ?_
  refine Ends.pure hn H ?_ (r0 := IntV (endW e)) (by rw [show Try.f28.results.toList = [.tmp 2] from rfl]; simp -implicitDefEqProofs only [go_sem, ↓reduceIte, Nat.reduceEqDiff, Nat.reduceAdd, Nat.reduceMul, Nat.reduceLT, Nat.reduceLeDiff, reduceCtorEq, Int.toNat_natCast]; rfl) (.v _) ⟨rfl, rfl⟩
  exact lowEq_upd (Nat.le_refl _) (fun _ _ => rfl)

theorem fits_ok (size : Int) (e : Ext) (h : Heap) (b : Nat) : ACalls Try.prog 33 [IntV size, ExtV e] h b 0 (fun r h' => r = BoolV (fitsB size e) ∧ h' = h) := by
  refine ACalls.enter Try.func33 rfl (by simp [Try.ntmps33]) (fun ι w hn H => ?_)
  unfold ExtV
  refine AWP.seqReg (by kernel_rfl) (fun E K hE hK => ?_); simp -implicitDefEqProofs only [go_sem, ↓reduceIte, Nat.reduceEqDiff, Nat.reduceAdd, Nat.reduceMul, Nat.reduceLT, Nat.reduceLeDiff, reduceCtorEq, Int.toNat_natCast]; refine hK _ _ _ ?_; clear hE hK K E
  refine AWP.seqReg (by kernel_rfl) (fun E K hE hK => ?_); simp -implicitDefEqProofs only [go_sem, ↓reduceIte, Nat.reduceEqDiff, Nat.reduceAdd, Nat.reduceMul, Nat.reduceLT, Nat.reduceLeDiff, reduceCtorEq, Int.toNat_natCast]
  refine ⟨fun h1 => ⟨fun h2 => ⟨fun h3 => ?_, fun h3 => ?_⟩, fun h2 => ?_⟩, fun h1 => ?_⟩
  all_goals
    refine hK _ _ _ ?_; clear hE hK K E
    refine AWP.ret ?_
    refine Ends.pure hn H (lowEq_upd (Nat.le_refl _) (fun _ _ => rfl)) (by rw [show Try.f33.results.toList = [.tmp 4] from rfl]; simp -implicitDefEqProofs only [go_sem, ↓reduceIte, Nat.reduceEqDiff, Nat.reduceAdd, Nat.reduceMul, Nat.reduceLT, Nat.reduceLeDiff, reduceCtorEq, Int.toNat_natCast]; rfl) (.v _) ⟨?_, rfl⟩
    simp only [fitsB, h1, Bool.true_and, Bool.false_and]
    try simp only [h2, Bool.true_and, Bool.false_and]
    try simp only [h3, Bool.true_and, Bool.false_and]

end Go.Proofs.Ytdannmfdenlikaa
