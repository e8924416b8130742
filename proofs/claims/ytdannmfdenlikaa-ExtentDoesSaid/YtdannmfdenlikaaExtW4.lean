/-
  Walks of package extent: New.
-/
import Derived.Test.YtdannmfdenlikaaExtW3
namespace Go.Proofs.Ytdannmfdenlikaa
set_option linter.unusedSimpArgs false
set_option linter.unusedVariables false
set_option linter.unnecessarySimpa false
open Go Am
set_option maxRecDepth 100000

theorem okEs_ext (l : List Ext) : okEs 2 (l.map encE) := fun e he => by
  obtain ⟨x, _, rfl⟩ := List.mem_map.1 he
  exact ⟨rfl, fun d hd => by simp [encE] at hd; rcases hd with rfl | rfl <;> rfl⟩

def ExtsErr (x : Exts × Int) : AV := .tup [ExtsV x.1, IntV x.2]

theorem chk_nil (size : Int) (h : Heap) (b : Nat) : ACalls Try.prog 14 [.agg [.p (.v (.int .i64 size)), .p (.v (.slice none 0 0))]] h b 0 (fun r h' => r = IntV (chk ⟨size, []⟩) ∧ h' = h) := by
  refine ACalls.args (chk_ok ⟨size, []⟩ h b (Nat.zero_le _)) (fun ι w vs ⟨hl, hv⟩ => ⟨hl, fun i c u hc hu => ?_⟩)
  match i with
  | 0 =>
    simp at hc
    subst hc
    have := hv 0 _ u rfl hu
    cases this with
    | agg V hV hv' =>
      refine .agg V hV (fun j d u hd hu => ?_)
      match j with
      | 0 => simp [ExtsV] at hd; subst hd; exact hv' 0 _ u rfl hu
      | 1 => simp [ExtsV] at hd; subst hd; exact nil_sl 2 (hv' 1 _ u rfl hu)
      | j + 2 => simp [ExtsV] at hd
  | i + 1 => simp at hc

theorem new_ok (size : Int) (h : Heap) (b : Nat) : ACalls Try.prog 10 [IntV size] h b 0 (fun r h' => r = ExtsErr (newX size) ∧ h' = h) := by
  refine ACalls.enter Try.func10 rfl (by simp [Try.ntmps10]) (fun ι w hn H => ?_)
  refine AWP.seqReg (by kernel_rfl) (fun E K hE hK => ?_); simp -implicitDefEqProofs only [go_sem, ↓reduceIte, Nat.reduceEqDiff, Nat.reduceAdd, Nat.reduceMul, Nat.reduceLT, Nat.reduceLeDiff, reduceCtorEq, Int.toNat_natCast]; refine hK _ _ _ ?_; clear hE hK K E
  refine AWP.seqReg (by kernel_rfl) (fun E K hE hK => ?_); simp -implicitDefEqProofs only [go_sem, ↓reduceIte, Nat.reduceEqDiff, Nat.reduceAdd, Nat.reduceMul, Nat.reduceLT, Nat.reduceLeDiff, reduceCtorEq, Int.toNat_natCast]; refine hK _ _ _ ?_; clear hE hK K E
  refine AWP.seq ?_
  refine AWP.seqReg (by kernel_rfl) (fun E K hE hK => ?_); simp -implicitDefEqProofs only [go_sem, ↓reduceIte, Nat.reduceEqDiff, Nat.reduceAdd, Nat.reduceMul, Nat.reduceLT, Nat.reduceLeDiff, reduceCtorEq, Int.toNat_natCast]
  refine CallR.use (chk_nil size _ _) body_14 ?_
  rintro _ _ ⟨rfl, rfl⟩
  simp -implicitDefEqProofs only [go_sem, ↓reduceIte, Nat.reduceEqDiff, Nat.reduceAdd, Nat.reduceMul, Nat.reduceLT, Nat.reduceLeDiff, reduceCtorEq, Int.toNat_natCast]
  refine hK _ _ _ ?_; clear hE hK K E
  refine AWP.seqReg (by kernel_rfl) (fun E K hE hK => ?_); simp -implicitDefEqProofs only [go_sem, ↓reduceIte, Nat.reduceEqDiff, Nat.reduceAdd, Nat.reduceMul, Nat.reduceLT, Nat.reduceLeDiff, reduceCtorEq, Int.toNat_natCast]; refine hK _ _ _ ?_; clear hE hK K E
  by_cases hs : size < 0 ∨ 8192 < size
  · have hc : chk ⟨size, []⟩ = 1 := by unfold chk; rw [if_pos hs]
    refine AWP.ifT (by simp -implicitDefEqProofs only [go_sem, ↓reduceIte, Nat.reduceEqDiff, Nat.reduceAdd, Nat.reduceMul, Nat.reduceLT, Nat.reduceLeDiff, reduceCtorEq, Int.toNat_natCast, hc]; rfl) ?_
    refine AWP.seqReg (by kernel_rfl) (fun E K hE hK => ?_); simp -implicitDefEqProofs only [go_sem, ↓reduceIte, Nat.reduceEqDiff, Nat.reduceAdd, Nat.reduceMul, Nat.reduceLT, Nat.reduceLeDiff, reduceCtorEq, Int.toNat_natCast, hc]; refine hK _ _ _ ?_; clear hE hK K E
    refine AWP.ret ?_
    simp -implicitDefEqProofs only [go_sem, ↓reduceIte, Nat.reduceEqDiff, Nat.reduceAdd, Nat.reduceMul, Nat.reduceLT, Nat.reduceLeDiff, reduceCtorEq, Int.toNat_natCast]
    refine Ends.pure hn H (lowEq_upd (Nat.le_refl _) (fun _ _ => rfl)) (r0 := .tup [.agg [.p (.v (.int .i64 0)), .p (.v (.slice none 0 0))], IntV 1]) (by rw [show Try.f10.results.toList = [.cell 2 26, .tmp 3] from rfl]; simp -implicitDefEqProofs only [go_sem, ↓reduceIte, Nat.reduceEqDiff, Nat.reduceAdd, Nat.reduceMul, Nat.reduceLT, Nat.reduceLeDiff, reduceCtorEq, Int.toNat_natCast]) (frz_tup2 (frz_agg2 (frz_p _) (frz_nil 2)) (.v _)) ⟨?_, rfl⟩
    unfold newX; rw [if_pos hs]; rfl
  · have hc : chk ⟨size, []⟩ = 0 := by unfold chk; rw [if_neg hs]; rfl
    refine AWP.ifF (by simp -implicitDefEqProofs only [go_sem, ↓reduceIte, Nat.reduceEqDiff, Nat.reduceAdd, Nat.reduceMul, Nat.reduceLT, Nat.reduceLeDiff, reduceCtorEq, Int.toNat_natCast, hc]) ?_
    refine AWP.skip ?_
    simp -implicitDefEqProofs only [go_sem, ↓reduceIte, Nat.reduceEqDiff, Nat.reduceAdd, Nat.reduceMul, Nat.reduceLT, Nat.reduceLeDiff, reduceCtorEq, Int.toNat_natCast]
    refine AWP.seq ?_
    refine AWP.seqReg (by kernel_rfl) (fun E K hE hK => ?_); simp -implicitDefEqProofs only [go_sem, ↓reduceIte, Nat.reduceEqDiff, Nat.reduceAdd, Nat.reduceMul, Nat.reduceLT, Nat.reduceLeDiff, reduceCtorEq, Int.toNat_natCast]; refine hK _ _ _ ?_; clear hE hK K E
    by_cases h0 : 0 < size
    · refine AWP.ifT (by simp -implicitDefEqProofs only [go_sem, ↓reduceIte, Nat.reduceEqDiff, Nat.reduceAdd, Nat.reduceMul, Nat.reduceLT, Nat.reduceLeDiff, reduceCtorEq, Int.toNat_natCast, h0]) ?_
      refine AWP.reg (by kernel_rfl) (fun E K hE hK => ?_); simp -implicitDefEqProofs only [go_sem, ↓reduceIte, Nat.reduceEqDiff, Nat.reduceAdd, Nat.reduceMul, Nat.reduceLT, Nat.reduceLeDiff, reduceCtorEq, Int.toNat_natCast]; refine hK _ _ _ ?_; clear hE hK K E
      simp -implicitDefEqProofs only [go_sem, ↓reduceIte, Nat.reduceEqDiff, Nat.reduceAdd, Nat.reduceMul, Nat.reduceLT, Nat.reduceLeDiff, reduceCtorEq, Int.toNat_natCast]
      refine AWP.seqReg (by kernel_rfl) (fun E K hE hK => ?_); simp -implicitDefEqProofs only [go_sem, ↓reduceIte, Nat.reduceEqDiff, Nat.reduceAdd, Nat.reduceMul, Nat.reduceLT, Nat.reduceLeDiff, reduceCtorEq, Int.toNat_natCast]; refine hK _ _ _ ?_; clear hE hK K E
      refine AWP.ret ?_
      simp -implicitDefEqProofs only [go_sem, ↓reduceIte, Nat.reduceEqDiff, Nat.reduceAdd, Nat.reduceMul, Nat.reduceLT, Nat.reduceLeDiff, reduceCtorEq, Int.toNat_natCast]
      refine Ends.pure hn H (lowEq_upd (Nat.le_refl _) (lowEq_upd (Nat.le_succ _) (lowEq_upd (Nat.le_refl _) (fun _ _ => rfl)))) (r0 := .tup [.agg [.p (.v (.int .i64 size)), .win (b + 1) 0 0 1 1], IntV 0])
        (by rw [show Try.f10.results.toList = [.cell 2 26, .tmp 3] from rfl]; simp -implicitDefEqProofs only [go_sem, ↓reduceIte, Nat.reduceEqDiff, Nat.reduceAdd, Nat.reduceMul, Nat.reduceLT, Nat.reduceLeDiff, reduceCtorEq, Int.toNat_natCast])
        (frz_tup2 (frz_agg2 (frz_p _) (frz_row0 (sz := 2) (es := [encE ⟨0, size⟩]) (T := []) (Nat.le_succ _) (by simp -implicitDefEqProofs only [go_sem, ↓reduceIte, Nat.reduceEqDiff, Nat.reduceAdd, Nat.reduceMul, Nat.reduceLT, Nat.reduceLeDiff, reduceCtorEq, Int.toNat_natCast]; rfl) (okEs_ext [⟨0, size⟩]))) (.v _)) ⟨?_, rfl⟩
      unfold newX; rw [if_neg hs, if_pos h0]; rfl
    · refine AWP.ifF (by simp -implicitDefEqProofs only [go_sem, ↓reduceIte, Nat.reduceEqDiff, Nat.reduceAdd, Nat.reduceMul, Nat.reduceLT, Nat.reduceLeDiff, reduceCtorEq, Int.toNat_natCast, h0]) ?_
      refine AWP.skip ?_
      simp -implicitDefEqProofs only [go_sem, ↓reduceIte, Nat.reduceEqDiff, Nat.reduceAdd, Nat.reduceMul, Nat.reduceLT, Nat.reduceLeDiff, reduceCtorEq, Int.toNat_natCast]
      refine AWP.seqReg (by kernel_rfl) (fun E K hE hK => ?_); simp -implicitDefEqProofs only [go_sem, ↓reduceIte, Nat.reduceEqDiff, Nat.reduceAdd, Nat.reduceMul, Nat.reduceLT, Nat.reduceLeDiff, reduceCtorEq, Int.toNat_natCast]; refine hK _ _ _ ?_; clear hE hK K E
      refine AWP.ret ?_
      simp -implicitDefEqProofs only [go_sem, ↓reduceIte, Nat.reduceEqDiff, Nat.reduceAdd, Nat.reduceMul, Nat.reduceLT, Nat.reduceLeDiff, reduceCtorEq, Int.toNat_natCast]
      refine Ends.pure hn H (lowEq_upd (Nat.le_refl _) (fun _ _ => rfl)) (r0 := .tup [.agg [.p (.v (.int .i64 size)), .p (.v (.slice none 0 0))], IntV 0]) (by rw [show Try.f10.results.toList = [.cell 2 26, .tmp 3] from rfl]; simp -implicitDefEqProofs only [go_sem, ↓reduceIte, Nat.reduceEqDiff, Nat.reduceAdd, Nat.reduceMul, Nat.reduceLT, Nat.reduceLeDiff, reduceCtorEq, Int.toNat_natCast]) (frz_tup2 (frz_agg2 (frz_p _) (frz_nil 2)) (.v _)) ⟨?_, rfl⟩
      unfold newX; rw [if_neg hs, if_neg h0]; rfl

end Go.Proofs.Ytdannmfdenlikaa
