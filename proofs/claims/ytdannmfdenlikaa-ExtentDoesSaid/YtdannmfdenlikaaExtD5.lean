/-
  Walks of the reference for extents: Keep, Give.
-/
import Derived.Test.YtdannmfdenlikaaExtD4
namespace Go.Proofs.Ytdannmfdenlikaa
set_option linter.unusedSimpArgs false
set_option linter.unusedVariables false
set_option linter.unnecessarySimpa false
open Go Am
set_option maxRecDepth 100000

theorem rkeep_ok (x : Exts) (s : Ext) (h : Heap) (b : Nat) (hl : x.free.length ≤ 1000000) :
    ACalls Try.prog 18 [ExtsV x, ExtV s] h b 0 (fun r h' => r = .tup [ExtsV (keepX x s).1, IntV (keepX x s).2] ∧ h' = h) := by
  refine ACalls.enter Try.func18 rfl (by simp [Try.ntmps18]) (fun ι w hn H => ?_)
  have hlow := H.lowCells
  have bad : ∀ (t : Nat → AV) (hh : Heap) (m : Nat) (e : Int), keepX x s = (⟨0, []⟩, e) → t 4 = .one (.ptr (b + 2) 0 0) → t 5 = IntV e → hh (b + 2) = some ⟨0, [.p (.v (.int .i64 0)), .p (.v (.slice none 0 0))]⟩ → (∀ id, id < b → hh id = h id) →
      Am.Ends Try.prog ⟨Try.f18.ntmps, b, ι, h, w⟩ Try.f18 0 (fun r h' => r = .tup [ExtsV (keepX x s).1, IntV (keepX x s).2] ∧ h' = h) ⟨t, hh, m⟩ := by
    intro t hh m e he e4 e5 h4 ho
    rw [he]
    exact Ends.pure hn H ho (r0 := .tup [.agg [.p (.v (.int .i64 0)), .p (.v (.slice none 0 0))], IntV e]) (by rw [show Try.f18.results.toList = [.cell 4 26, .tmp 5] from rfl]; simp -implicitDefEqProofs only [go_sem, ↓reduceIte, Nat.reduceEqDiff, Nat.reduceAdd, Nat.reduceMul, Nat.reduceLT, Nat.reduceLeDiff, reduceCtorEq, Int.toNat_natCast, e4, e5, h4])
      (frz_tup2 (frz_agg2 (frz_p _) (frz_nil 2)) (.v _)) ⟨rfl, rfl⟩
  unfold ExtsV ExtV
  refine AWP.seqReg (by kernel_rfl) (fun E K hE hK => ?_); simp -implicitDefEqProofs only [go_sem, ↓reduceIte, Nat.reduceEqDiff, Nat.reduceAdd, Nat.reduceMul, Nat.reduceLT, Nat.reduceLeDiff, reduceCtorEq, Int.toNat_natCast]; refine hK _ _ _ ?_; clear hE hK K E
  refine AWP.seq ?_
  refine AWP.seqReg (by kernel_rfl) (fun E K hE hK => ?_); simp -implicitDefEqProofs only [go_sem, ↓reduceIte, Nat.reduceEqDiff, Nat.reduceAdd, Nat.reduceMul, Nat.reduceLT, Nat.reduceLeDiff, reduceCtorEq, Int.toNat_natCast, encX]
  refine CallR.use (rchk_ok x _ _ hl) body_24 ?_; rintro _ h_ ⟨rfl, e_⟩; rw [e_]; clear e_ h_; simp -implicitDefEqProofs only [go_sem, ↓reduceIte, Nat.reduceEqDiff, Nat.reduceAdd, Nat.reduceMul, Nat.reduceLT, Nat.reduceLeDiff, reduceCtorEq, Int.toNat_natCast]
  rcases chk_01 x with hc | hc
  case inr =>
    simp -implicitDefEqProofs only [go_sem, ↓reduceIte, Nat.reduceEqDiff, Nat.reduceAdd, Nat.reduceMul, Nat.reduceLT, Nat.reduceLeDiff, reduceCtorEq, Int.toNat_natCast, hc, Int.reduceEq, decide_false, decide_true, Bool.not_false]
    refine hK _ _ _ ?_; clear hE hK K E
    refine AWP.ifT (by simp -implicitDefEqProofs only [go_sem, ↓reduceIte, Nat.reduceEqDiff, Nat.reduceAdd, Nat.reduceMul, Nat.reduceLT, Nat.reduceLeDiff, reduceCtorEq, Int.toNat_natCast]) ?_
    refine AWP.seqReg (by kernel_rfl) (fun E K hE hK => ?_); simp -implicitDefEqProofs only [go_sem, ↓reduceIte, Nat.reduceEqDiff, Nat.reduceAdd, Nat.reduceMul, Nat.reduceLT, Nat.reduceLeDiff, reduceCtorEq, Int.toNat_natCast]; refine hK _ _ _ ?_; clear hE hK K E
    refine AWP.ret ?_
    simp -implicitDefEqProofs only [go_sem, ↓reduceIte, Nat.reduceEqDiff, Nat.reduceAdd, Nat.reduceMul, Nat.reduceLT, Nat.reduceLeDiff, reduceCtorEq, Int.toNat_natCast]
    exact bad _ _ _ 1 (keep_bad (fun hh => by rw [hc] at hh; exact absurd hh.2 (by decide))) (by simp -implicitDefEqProofs only [go_sem, ↓reduceIte, Nat.reduceEqDiff, Nat.reduceAdd, Nat.reduceMul, Nat.reduceLT, Nat.reduceLeDiff, reduceCtorEq, Int.toNat_natCast]) (by simp -implicitDefEqProofs only [go_sem, ↓reduceIte, Nat.reduceEqDiff, Nat.reduceAdd, Nat.reduceMul, Nat.reduceLT, Nat.reduceLeDiff, reduceCtorEq, Int.toNat_natCast]) (by simp -implicitDefEqProofs only [go_sem, ↓reduceIte, Nat.reduceEqDiff, Nat.reduceAdd, Nat.reduceMul, Nat.reduceLT, Nat.reduceLeDiff, reduceCtorEq, Int.toNat_natCast]) (fun id (hid : id < b) => by simp -implicitDefEqProofs only [go_sem, ↓reduceIte, Nat.reduceEqDiff, Nat.reduceAdd, Nat.reduceMul, Nat.reduceLT, Nat.reduceLeDiff, reduceCtorEq, Int.toNat_natCast, show ¬ id = b by omega, show ¬ id = b + 1 by omega, show ¬ id = b + 2 by omega])
  simp -implicitDefEqProofs only [go_sem, ↓reduceIte, Nat.reduceEqDiff, Nat.reduceAdd, Nat.reduceMul, Nat.reduceLT, Nat.reduceLeDiff, reduceCtorEq, Int.toNat_natCast, hc, encX, Int.reduceEq, decide_false, decide_true, Bool.not_true]
  refine CallR.use (is_ok x.size s _ _) body_36 ?_; rintro _ h_ ⟨rfl, e_⟩; rw [e_]; clear e_ h_; simp -implicitDefEqProofs only [go_sem, ↓reduceIte, Nat.reduceEqDiff, Nat.reduceAdd, Nat.reduceMul, Nat.reduceLT, Nat.reduceLeDiff, reduceCtorEq, Int.toNat_natCast]
  cases hf : fitsB x.size s with
  | false =>
    simp -implicitDefEqProofs only [go_sem, ↓reduceIte, Nat.reduceEqDiff, Nat.reduceAdd, Nat.reduceMul, Nat.reduceLT, Nat.reduceLeDiff, reduceCtorEq, Int.toNat_natCast, Bool.not_false]
    refine hK _ _ _ ?_; clear hE hK K E
    refine AWP.ifT (by simp -implicitDefEqProofs only [go_sem, ↓reduceIte, Nat.reduceEqDiff, Nat.reduceAdd, Nat.reduceMul, Nat.reduceLT, Nat.reduceLeDiff, reduceCtorEq, Int.toNat_natCast]) ?_
    refine AWP.seqReg (by kernel_rfl) (fun E K hE hK => ?_); simp -implicitDefEqProofs only [go_sem, ↓reduceIte, Nat.reduceEqDiff, Nat.reduceAdd, Nat.reduceMul, Nat.reduceLT, Nat.reduceLeDiff, reduceCtorEq, Int.toNat_natCast]; refine hK _ _ _ ?_; clear hE hK K E
    refine AWP.ret ?_
    simp -implicitDefEqProofs only [go_sem, ↓reduceIte, Nat.reduceEqDiff, Nat.reduceAdd, Nat.reduceMul, Nat.reduceLT, Nat.reduceLeDiff, reduceCtorEq, Int.toNat_natCast]
    exact bad _ _ _ 1 (keep_bad (fun hh => by rw [hf] at hh; exact absurd hh.1 (by decide))) (by simp -implicitDefEqProofs only [go_sem, ↓reduceIte, Nat.reduceEqDiff, Nat.reduceAdd, Nat.reduceMul, Nat.reduceLT, Nat.reduceLeDiff, reduceCtorEq, Int.toNat_natCast]) (by simp -implicitDefEqProofs only [go_sem, ↓reduceIte, Nat.reduceEqDiff, Nat.reduceAdd, Nat.reduceMul, Nat.reduceLT, Nat.reduceLeDiff, reduceCtorEq, Int.toNat_natCast]) (by simp -implicitDefEqProofs only [go_sem, ↓reduceIte, Nat.reduceEqDiff, Nat.reduceAdd, Nat.reduceMul, Nat.reduceLT, Nat.reduceLeDiff, reduceCtorEq, Int.toNat_natCast]) (fun id (hid : id < b) => by simp -implicitDefEqProofs only [go_sem, ↓reduceIte, Nat.reduceEqDiff, Nat.reduceAdd, Nat.reduceMul, Nat.reduceLT, Nat.reduceLeDiff, reduceCtorEq, Int.toNat_natCast, show ¬ id = b by omega, show ¬ id = b + 1 by omega, show ¬ id = b + 2 by omega])
  | true =>
    simp -implicitDefEqProofs only [go_sem, ↓reduceIte, Nat.reduceEqDiff, Nat.reduceAdd, Nat.reduceMul, Nat.reduceLT, Nat.reduceLeDiff, reduceCtorEq, Int.toNat_natCast, Bool.not_true]
    refine hK _ _ _ ?_; clear hE hK K E
    refine AWP.ifF (by simp -implicitDefEqProofs only [go_sem, ↓reduceIte, Nat.reduceEqDiff, Nat.reduceAdd, Nat.reduceMul, Nat.reduceLT, Nat.reduceLeDiff, reduceCtorEq, Int.toNat_natCast]) ?_; refine AWP.skip ?_; simp -implicitDefEqProofs only [go_sem, ↓reduceIte, Nat.reduceEqDiff, Nat.reduceAdd, Nat.reduceMul, Nat.reduceLT, Nat.reduceLeDiff, reduceCtorEq, Int.toNat_natCast]
    refine AWP.seqReg (by kernel_rfl) (fun E K hE hK => ?_); simp -implicitDefEqProofs only [go_sem, ↓reduceIte, Nat.reduceEqDiff, Nat.reduceAdd, Nat.reduceMul, Nat.reduceLT, Nat.reduceLeDiff, reduceCtorEq, Int.toNat_natCast, encX]
    refine CallR.use (set_ok x s false _ _ hc hf hl) body_37 ?_; rintro _ h_ ⟨rfl, e_⟩; rw [e_]; clear e_ h_; simp -implicitDefEqProofs only [go_sem, ↓reduceIte, Nat.reduceEqDiff, Nat.reduceAdd, Nat.reduceMul, Nat.reduceLT, Nat.reduceLeDiff, reduceCtorEq, Int.toNat_natCast]
    rcases set_keep hc hf with ⟨e1, e2⟩ | ⟨e1, e2⟩
    · rw [e1]
      unfold ExtsV
      simp -implicitDefEqProofs only [go_sem, ↓reduceIte, Nat.reduceEqDiff, Nat.reduceAdd, Nat.reduceMul, Nat.reduceLT, Nat.reduceLeDiff, reduceCtorEq, Int.toNat_natCast, List.map_nil]
      refine hK _ _ _ ?_; clear hE hK K E
      refine AWP.seq ?_
      refine AWP.seqReg (by kernel_rfl) (fun E K hE hK => ?_); simp -implicitDefEqProofs only [go_sem, ↓reduceIte, Nat.reduceEqDiff, Nat.reduceAdd, Nat.reduceMul, Nat.reduceLT, Nat.reduceLeDiff, reduceCtorEq, Int.toNat_natCast, Bool.not_false]; refine hK _ _ _ ?_; clear hE hK K E
      refine AWP.ifT (by simp -implicitDefEqProofs only [go_sem, ↓reduceIte, Nat.reduceEqDiff, Nat.reduceAdd, Nat.reduceMul, Nat.reduceLT, Nat.reduceLeDiff, reduceCtorEq, Int.toNat_natCast]) ?_
      refine AWP.seqReg (by kernel_rfl) (fun E K hE hK => ?_); simp -implicitDefEqProofs only [go_sem, ↓reduceIte, Nat.reduceEqDiff, Nat.reduceAdd, Nat.reduceMul, Nat.reduceLT, Nat.reduceLeDiff, reduceCtorEq, Int.toNat_natCast]; refine hK _ _ _ ?_; clear hE hK K E
      refine AWP.ret ?_
      simp -implicitDefEqProofs only [go_sem, ↓reduceIte, Nat.reduceEqDiff, Nat.reduceAdd, Nat.reduceMul, Nat.reduceLT, Nat.reduceLeDiff, reduceCtorEq, Int.toNat_natCast]
      exact bad _ _ _ 4 e2 (by simp -implicitDefEqProofs only [go_sem, ↓reduceIte, Nat.reduceEqDiff, Nat.reduceAdd, Nat.reduceMul, Nat.reduceLT, Nat.reduceLeDiff, reduceCtorEq, Int.toNat_natCast]) (by simp -implicitDefEqProofs only [go_sem, ↓reduceIte, Nat.reduceEqDiff, Nat.reduceAdd, Nat.reduceMul, Nat.reduceLT, Nat.reduceLeDiff, reduceCtorEq, Int.toNat_natCast]) (by simp -implicitDefEqProofs only [go_sem, ↓reduceIte, Nat.reduceEqDiff, Nat.reduceAdd, Nat.reduceMul, Nat.reduceLT, Nat.reduceLeDiff, reduceCtorEq, Int.toNat_natCast]) (fun id (hid : id < b) => by simp -implicitDefEqProofs only [go_sem, ↓reduceIte, Nat.reduceEqDiff, Nat.reduceAdd, Nat.reduceMul, Nat.reduceLT, Nat.reduceLeDiff, reduceCtorEq, Int.toNat_natCast, show ¬ id = b by omega, show ¬ id = b + 1 by omega, show ¬ id = b + 2 by omega, show ¬ id = b + 3 by omega])
    · rw [e1]
      have hk : keepX x s = ((keepX x s).1, 0) := Prod.ext rfl e2
      generalize (keepX x s).1 = y at hk ⊢
      unfold ExtsV
      simp -implicitDefEqProofs only [go_sem, ↓reduceIte, Nat.reduceEqDiff, Nat.reduceAdd, Nat.reduceMul, Nat.reduceLT, Nat.reduceLeDiff, reduceCtorEq, Int.toNat_natCast]
      refine hK _ _ _ ?_; clear hE hK K E
      refine AWP.seq ?_
      refine AWP.seqReg (by kernel_rfl) (fun E K hE hK => ?_); simp -implicitDefEqProofs only [go_sem, ↓reduceIte, Nat.reduceEqDiff, Nat.reduceAdd, Nat.reduceMul, Nat.reduceLT, Nat.reduceLeDiff, reduceCtorEq, Int.toNat_natCast, Bool.not_true]; refine hK _ _ _ ?_; clear hE hK K E
      refine AWP.ifF (by simp -implicitDefEqProofs only [go_sem, ↓reduceIte, Nat.reduceEqDiff, Nat.reduceAdd, Nat.reduceMul, Nat.reduceLT, Nat.reduceLeDiff, reduceCtorEq, Int.toNat_natCast]) ?_; refine AWP.skip ?_; simp -implicitDefEqProofs only [go_sem, ↓reduceIte, Nat.reduceEqDiff, Nat.reduceAdd, Nat.reduceMul, Nat.reduceLT, Nat.reduceLeDiff, reduceCtorEq, Int.toNat_natCast]
      refine AWP.seqReg (by kernel_rfl) (fun E K hE hK => ?_); simp -implicitDefEqProofs only [go_sem, ↓reduceIte, Nat.reduceEqDiff, Nat.reduceAdd, Nat.reduceMul, Nat.reduceLT, Nat.reduceLeDiff, reduceCtorEq, Int.toNat_natCast]; refine hK _ _ _ ?_; clear hE hK K E
      refine AWP.ret ?_
      simp -implicitDefEqProofs only [go_sem, ↓reduceIte, Nat.reduceEqDiff, Nat.reduceAdd, Nat.reduceMul, Nat.reduceLT, Nat.reduceLeDiff, reduceCtorEq, Int.toNat_natCast]
      refine Ends.pure hn H (by exact (fun id (hid : id < b) => by simp -implicitDefEqProofs only [go_sem, ↓reduceIte, Nat.reduceEqDiff, Nat.reduceAdd, Nat.reduceMul, Nat.reduceLT, Nat.reduceLeDiff, reduceCtorEq, Int.toNat_natCast, show ¬ id = b by omega, show ¬ id = b + 1 by omega, show ¬ id = b + 2 by omega, show ¬ id = b + 3 by omega])) (r0 := .tup [ExtsV y, IntV 0]) (by rw [show Try.f18.results.toList = [.cell 4 26, .tmp 5] from rfl]; simp -implicitDefEqProofs only [go_sem, ↓reduceIte, Nat.reduceEqDiff, Nat.reduceAdd, Nat.reduceMul, Nat.reduceLT, Nat.reduceLeDiff, reduceCtorEq, Int.toNat_natCast]; rfl) (frz_tup2 (frz_agg2 (frz_p _) (frz_p _)) (.v _)) ⟨by rw [hk], rfl⟩

theorem rgive_ok (x : Exts) (s : Ext) (h : Heap) (b : Nat) (hl : x.free.length ≤ 1000000) :
    ACalls Try.prog 19 [ExtsV x, ExtV s] h b 0 (fun r h' => r = .tup [ExtsV (giveX x s).1, IntV (giveX x s).2] ∧ h' = h) := by
  refine ACalls.enter Try.func19 rfl (by simp [Try.ntmps19]) (fun ι w hn H => ?_)
  have hlow := H.lowCells
  have bad : ∀ (t : Nat → AV) (hh : Heap) (m : Nat) (e : Int), giveX x s = (⟨0, []⟩, e) → t 4 = .one (.ptr (b + 2) 0 0) → t 5 = IntV e → hh (b + 2) = some ⟨0, [.p (.v (.int .i64 0)), .p (.v (.slice none 0 0))]⟩ → (∀ id, id < b → hh id = h id) →
      Am.Ends Try.prog ⟨Try.f19.ntmps, b, ι, h, w⟩ Try.f19 0 (fun r h' => r = .tup [ExtsV (giveX x s).1, IntV (giveX x s).2] ∧ h' = h) ⟨t, hh, m⟩ := by
    intro t hh m e he e4 e5 h4 ho
    rw [he]
    exact Ends.pure hn H ho (r0 := .tup [.agg [.p (.v (.int .i64 0)), .p (.v (.slice none 0 0))], IntV e]) (by rw [show Try.f19.results.toList = [.cell 4 26, .tmp 5] from rfl]; simp -implicitDefEqProofs only [go_sem, ↓reduceIte, Nat.reduceEqDiff, Nat.reduceAdd, Nat.reduceMul, Nat.reduceLT, Nat.reduceLeDiff, reduceCtorEq, Int.toNat_natCast, e4, e5, h4])
      (frz_tup2 (frz_agg2 (frz_p _) (frz_nil 2)) (.v _)) ⟨rfl, rfl⟩
  unfold ExtsV ExtV
  refine AWP.seqReg (by kernel_rfl) (fun E K hE hK => ?_); simp -implicitDefEqProofs only [go_sem, ↓reduceIte, Nat.reduceEqDiff, Nat.reduceAdd, Nat.reduceMul, Nat.reduceLT, Nat.reduceLeDiff, reduceCtorEq, Int.toNat_natCast]; refine hK _ _ _ ?_; clear hE hK K E
  refine AWP.seq ?_
  refine AWP.seqReg (by kernel_rfl) (fun E K hE hK => ?_); simp -implicitDefEqProofs only [go_sem, ↓reduceIte, Nat.reduceEqDiff, Nat.reduceAdd, Nat.reduceMul, Nat.reduceLT, Nat.reduceLeDiff, reduceCtorEq, Int.toNat_natCast, encX]
  refine CallR.use (rchk_ok x _ _ hl) body_24 ?_; rintro _ h_ ⟨rfl, e_⟩; rw [e_]; clear e_ h_; simp -implicitDefEqProofs only [go_sem, ↓reduceIte, Nat.reduceEqDiff, Nat.reduceAdd, Nat.reduceMul, Nat.reduceLT, Nat.reduceLeDiff, reduceCtorEq, Int.toNat_natCast]
  rcases chk_01 x with hc | hc
  case inr =>
    simp -implicitDefEqProofs only [go_sem, ↓reduceIte, Nat.reduceEqDiff, Nat.reduceAdd, Nat.reduceMul, Nat.reduceLT, Nat.reduceLeDiff, reduceCtorEq, Int.toNat_natCast, hc, Int.reduceEq, decide_false, decide_true, Bool.not_false]
    refine hK _ _ _ ?_; clear hE hK K E
    refine AWP.ifT (by simp -implicitDefEqProofs only [go_sem, ↓reduceIte, Nat.reduceEqDiff, Nat.reduceAdd, Nat.reduceMul, Nat.reduceLT, Nat.reduceLeDiff, reduceCtorEq, Int.toNat_natCast]) ?_
    refine AWP.seqReg (by kernel_rfl) (fun E K hE hK => ?_); simp -implicitDefEqProofs only [go_sem, ↓reduceIte, Nat.reduceEqDiff, Nat.reduceAdd, Nat.reduceMul, Nat.reduceLT, Nat.reduceLeDiff, reduceCtorEq, Int.toNat_natCast]; refine hK _ _ _ ?_; clear hE hK K E
    refine AWP.ret ?_
    simp -implicitDefEqProofs only [go_sem, ↓reduceIte, Nat.reduceEqDiff, Nat.reduceAdd, Nat.reduceMul, Nat.reduceLT, Nat.reduceLeDiff, reduceCtorEq, Int.toNat_natCast]
    exact bad _ _ _ 1 (give_bad (fun hh => by rw [hc] at hh; exact absurd hh.2 (by decide))) (by simp -implicitDefEqProofs only [go_sem, ↓reduceIte, Nat.reduceEqDiff, Nat.reduceAdd, Nat.reduceMul, Nat.reduceLT, Nat.reduceLeDiff, reduceCtorEq, Int.toNat_natCast]) (by simp -implicitDefEqProofs only [go_sem, ↓reduceIte, Nat.reduceEqDiff, Nat.reduceAdd, Nat.reduceMul, Nat.reduceLT, Nat.reduceLeDiff, reduceCtorEq, Int.toNat_natCast]) (by simp -implicitDefEqProofs only [go_sem, ↓reduceIte, Nat.reduceEqDiff, Nat.reduceAdd, Nat.reduceMul, Nat.reduceLT, Nat.reduceLeDiff, reduceCtorEq, Int.toNat_natCast]) (fun id (hid : id < b) => by simp -implicitDefEqProofs only [go_sem, ↓reduceIte, Nat.reduceEqDiff, Nat.reduceAdd, Nat.reduceMul, Nat.reduceLT, Nat.reduceLeDiff, reduceCtorEq, Int.toNat_natCast, show ¬ id = b by omega, show ¬ id = b + 1 by omega, show ¬ id = b + 2 by omega])
  simp -implicitDefEqProofs only [go_sem, ↓reduceIte, Nat.reduceEqDiff, Nat.reduceAdd, Nat.reduceMul, Nat.reduceLT, Nat.reduceLeDiff, reduceCtorEq, Int.toNat_natCast, hc, encX, Int.reduceEq, decide_false, decide_true, Bool.not_true]
  refine CallR.use (is_ok x.size s _ _) body_36 ?_; rintro _ h_ ⟨rfl, e_⟩; rw [e_]; clear e_ h_; simp -implicitDefEqProofs only [go_sem, ↓reduceIte, Nat.reduceEqDiff, Nat.reduceAdd, Nat.reduceMul, Nat.reduceLT, Nat.reduceLeDiff, reduceCtorEq, Int.toNat_natCast]
  cases hf : fitsB x.size s with
  | false =>
    simp -implicitDefEqProofs only [go_sem, ↓reduceIte, Nat.reduceEqDiff, Nat.reduceAdd, Nat.reduceMul, Nat.reduceLT, Nat.reduceLeDiff, reduceCtorEq, Int.toNat_natCast, Bool.not_false]
    refine hK _ _ _ ?_; clear hE hK K E
    refine AWP.ifT (by simp -implicitDefEqProofs only [go_sem, ↓reduceIte, Nat.reduceEqDiff, Nat.reduceAdd, Nat.reduceMul, Nat.reduceLT, Nat.reduceLeDiff, reduceCtorEq, Int.toNat_natCast]) ?_
    refine AWP.seqReg (by kernel_rfl) (fun E K hE hK => ?_); simp -implicitDefEqProofs only [go_sem, ↓reduceIte, Nat.reduceEqDiff, Nat.reduceAdd, Nat.reduceMul, Nat.reduceLT, Nat.reduceLeDiff, reduceCtorEq, Int.toNat_natCast]; refine hK _ _ _ ?_; clear hE hK K E
    refine AWP.ret ?_
    simp -implicitDefEqProofs only [go_sem, ↓reduceIte, Nat.reduceEqDiff, Nat.reduceAdd, Nat.reduceMul, Nat.reduceLT, Nat.reduceLeDiff, reduceCtorEq, Int.toNat_natCast]
    exact bad _ _ _ 1 (give_bad (fun hh => by rw [hf] at hh; exact absurd hh.1 (by decide))) (by simp -implicitDefEqProofs only [go_sem, ↓reduceIte, Nat.reduceEqDiff, Nat.reduceAdd, Nat.reduceMul, Nat.reduceLT, Nat.reduceLeDiff, reduceCtorEq, Int.toNat_natCast]) (by simp -implicitDefEqProofs only [go_sem, ↓reduceIte, Nat.reduceEqDiff, Nat.reduceAdd, Nat.reduceMul, Nat.reduceLT, Nat.reduceLeDiff, reduceCtorEq, Int.toNat_natCast]) (by simp -implicitDefEqProofs only [go_sem, ↓reduceIte, Nat.reduceEqDiff, Nat.reduceAdd, Nat.reduceMul, Nat.reduceLT, Nat.reduceLeDiff, reduceCtorEq, Int.toNat_natCast]) (fun id (hid : id < b) => by simp -implicitDefEqProofs only [go_sem, ↓reduceIte, Nat.reduceEqDiff, Nat.reduceAdd, Nat.reduceMul, Nat.reduceLT, Nat.reduceLeDiff, reduceCtorEq, Int.toNat_natCast, show ¬ id = b by omega, show ¬ id = b + 1 by omega, show ¬ id = b + 2 by omega])
  | true =>
    simp -implicitDefEqProofs only [go_sem, ↓reduceIte, Nat.reduceEqDiff, Nat.reduceAdd, Nat.reduceMul, Nat.reduceLT, Nat.reduceLeDiff, reduceCtorEq, Int.toNat_natCast, Bool.not_true]
    refine hK _ _ _ ?_; clear hE hK K E
    refine AWP.ifF (by simp -implicitDefEqProofs only [go_sem, ↓reduceIte, Nat.reduceEqDiff, Nat.reduceAdd, Nat.reduceMul, Nat.reduceLT, Nat.reduceLeDiff, reduceCtorEq, Int.toNat_natCast]) ?_; refine AWP.skip ?_; simp -implicitDefEqProofs only [go_sem, ↓reduceIte, Nat.reduceEqDiff, Nat.reduceAdd, Nat.reduceMul, Nat.reduceLT, Nat.reduceLeDiff, reduceCtorEq, Int.toNat_natCast]
    refine AWP.seqReg (by kernel_rfl) (fun E K hE hK => ?_); simp -implicitDefEqProofs only [go_sem, ↓reduceIte, Nat.reduceEqDiff, Nat.reduceAdd, Nat.reduceMul, Nat.reduceLT, Nat.reduceLeDiff, reduceCtorEq, Int.toNat_natCast, encX]
    refine CallR.use (set_ok x s true _ _ hc hf hl) body_37 ?_; rintro _ h_ ⟨rfl, e_⟩; rw [e_]; clear e_ h_; simp -implicitDefEqProofs only [go_sem, ↓reduceIte, Nat.reduceEqDiff, Nat.reduceAdd, Nat.reduceMul, Nat.reduceLT, Nat.reduceLeDiff, reduceCtorEq, Int.toNat_natCast]
    rcases set_give hc hf with ⟨e1, e2⟩ | ⟨e1, e2⟩
    · rw [e1]
      unfold ExtsV
      simp -implicitDefEqProofs only [go_sem, ↓reduceIte, Nat.reduceEqDiff, Nat.reduceAdd, Nat.reduceMul, Nat.reduceLT, Nat.reduceLeDiff, reduceCtorEq, Int.toNat_natCast, List.map_nil]
      refine hK _ _ _ ?_; clear hE hK K E
      refine AWP.seq ?_
      refine AWP.seqReg (by kernel_rfl) (fun E K hE hK => ?_); simp -implicitDefEqProofs only [go_sem, ↓reduceIte, Nat.reduceEqDiff, Nat.reduceAdd, Nat.reduceMul, Nat.reduceLT, Nat.reduceLeDiff, reduceCtorEq, Int.toNat_natCast, Bool.not_false]; refine hK _ _ _ ?_; clear hE hK K E
      refine AWP.ifT (by simp -implicitDefEqProofs only [go_sem, ↓reduceIte, Nat.reduceEqDiff, Nat.reduceAdd, Nat.reduceMul, Nat.reduceLT, Nat.reduceLeDiff, reduceCtorEq, Int.toNat_natCast]) ?_
      refine AWP.seqReg (by kernel_rfl) (fun E K hE hK => ?_); simp -implicitDefEqProofs only [go_sem, ↓reduceIte, Nat.reduceEqDiff, Nat.reduceAdd, Nat.reduceMul, Nat.reduceLT, Nat.reduceLeDiff, reduceCtorEq, Int.toNat_natCast]; refine hK _ _ _ ?_; clear hE hK K E
      refine AWP.ret ?_
      simp -implicitDefEqProofs only [go_sem, ↓reduceIte, Nat.reduceEqDiff, Nat.reduceAdd, Nat.reduceMul, Nat.reduceLT, Nat.reduceLeDiff, reduceCtorEq, Int.toNat_natCast]
      exact bad _ _ _ 5 e2 (by simp -implicitDefEqProofs only [go_sem, ↓reduceIte, Nat.reduceEqDiff, Nat.reduceAdd, Nat.reduceMul, Nat.reduceLT, Nat.reduceLeDiff, reduceCtorEq, Int.toNat_natCast]) (by simp -implicitDefEqProofs only [go_sem, ↓reduceIte, Nat.reduceEqDiff, Nat.reduceAdd, Nat.reduceMul, Nat.reduceLT, Nat.reduceLeDiff, reduceCtorEq, Int.toNat_natCast]) (by simp -implicitDefEqProofs only [go_sem, ↓reduceIte, Nat.reduceEqDiff, Nat.reduceAdd, Nat.reduceMul, Nat.reduceLT, Nat.reduceLeDiff, reduceCtorEq, Int.toNat_natCast]) (fun id (hid : id < b) => by simp -implicitDefEqProofs only [go_sem, ↓reduceIte, Nat.reduceEqDiff, Nat.reduceAdd, Nat.reduceMul, Nat.reduceLT, Nat.reduceLeDiff, reduceCtorEq, Int.toNat_natCast, show ¬ id = b by omega, show ¬ id = b + 1 by omega, show ¬ id = b + 2 by omega, show ¬ id = b + 3 by omega])
    · rw [e1]
      have hk : giveX x s = ((giveX x s).1, 0) := Prod.ext rfl e2
      generalize (giveX x s).1 = y at hk ⊢
      unfold ExtsV
      simp -implicitDefEqProofs only [go_sem, ↓reduceIte, Nat.reduceEqDiff, Nat.reduceAdd, Nat.reduceMul, Nat.reduceLT, Nat.reduceLeDiff, reduceCtorEq, Int.toNat_natCast]
      refine hK _ _ _ ?_; clear hE hK K E
      refine AWP.seq ?_
      refine AWP.seqReg (by kernel_rfl) (fun E K hE hK => ?_); simp -implicitDefEqProofs only [go_sem, ↓reduceIte, Nat.reduceEqDiff, Nat.reduceAdd, Nat.reduceMul, Nat.reduceLT, Nat.reduceLeDiff, reduceCtorEq, Int.toNat_natCast, Bool.not_true]; refine hK _ _ _ ?_; clear hE hK K E
      refine AWP.ifF (by simp -implicitDefEqProofs only [go_sem, ↓reduceIte, Nat.reduceEqDiff, Nat.reduceAdd, Nat.reduceMul, Nat.reduceLT, Nat.reduceLeDiff, reduceCtorEq, Int.toNat_natCast]) ?_; refine AWP.skip ?_; simp -implicitDefEqProofs only [go_sem, ↓reduceIte, Nat.reduceEqDiff, Nat.reduceAdd, Nat.reduceMul, Nat.reduceLT, Nat.reduceLeDiff, reduceCtorEq, Int.toNat_natCast]
      refine AWP.seqReg (by kernel_rfl) (fun E K hE hK => ?_); simp -implicitDefEqProofs only [go_sem, ↓reduceIte, Nat.reduceEqDiff, Nat.reduceAdd, Nat.reduceMul, Nat.reduceLT, Nat.reduceLeDiff, reduceCtorEq, Int.toNat_natCast]; refine hK _ _ _ ?_; clear hE hK K E
      refine AWP.ret ?_
      simp -implicitDefEqProofs only [go_sem, ↓reduceIte, Nat.reduceEqDiff, Nat.reduceAdd, Nat.reduceMul, Nat.reduceLT, Nat.reduceLeDiff, reduceCtorEq, Int.toNat_natCast]
      refine Ends.pure hn H (by exact (fun id (hid : id < b) => by simp -implicitDefEqProofs only [go_sem, ↓reduceIte, Nat.reduceEqDiff, Nat.reduceAdd, Nat.reduceMul, Nat.reduceLT, Nat.reduceLeDiff, reduceCtorEq, Int.toNat_natCast, show ¬ id = b by omega, show ¬ id = b + 1 by omega, show ¬ id = b + 2 by omega, show ¬ id = b + 3 by omega])) (r0 := .tup [ExtsV y, IntV 0]) (by rw [show Try.f19.results.toList = [.cell 4 26, .tmp 5] from rfl]; simp -implicitDefEqProofs only [go_sem, ↓reduceIte, Nat.reduceEqDiff, Nat.reduceAdd, Nat.reduceMul, Nat.reduceLT, Nat.reduceLeDiff, reduceCtorEq, Int.toNat_natCast]; rfl) (frz_tup2 (frz_agg2 (frz_p _) (frz_p _)) (.v _)) ⟨by rw [hk], rfl⟩

end Go.Proofs.Ytdannmfdenlikaa
