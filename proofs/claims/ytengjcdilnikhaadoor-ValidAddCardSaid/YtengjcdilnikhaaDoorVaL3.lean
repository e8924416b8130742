/-
  Walk of the law ValidAdd.
-/
import Derived.Test.YtengjcdilnikhaaDoorVaL1
namespace Go.Proofs.YtengjcdilnikhaaDoor
set_option linter.unusedSimpArgs false
set_option linter.unusedVariables false
set_option linter.unnecessarySimpa false
open Go Am
set_option maxRecDepth 100000

theorem ValidAdd_ok (l : List Dn) (gen : Int) (names : List S) (begin : Int) (rn rd : List S) (hl1 : l.length ≤ maxLen) (hl2 : ∀ d ∈ l, d.names.length ≤ maxLen) (hl3 : rn.length ≤ maxLen) (hl4 : rd.length ≤ maxLen) (hl5 : names.length ≤ maxLen) (h : Heap) (b : Nat) :
    ACalls Tryd.prog 6 [DonesV l, U64V gen, ListV names, U64V begin, ReadsV rn rd] h b 0 (fun r h' => r = BoolV true ∧ h' = h) := by
  refine ACalls.enter Tryd.func6 rfl (by simp [Tryd.ntmps6]) (fun ι w hn H => ?_)
  have hmx : maxLen ≤ 9223372036854775807 := by decide
  have fin : ∀ (t : Nat → AV) (hh : Heap) (n : Nat), t 10 = BoolV true → (∀ id, id < b → hh id = h id) → Am.Ends Tryd.prog ⟨Tryd.f6.ntmps, b, ι, h, w, x0⟩ Tryd.f6 0 (fun r h' => r = BoolV true ∧ h' = h) ⟨t, hh, n⟩ := by
    intro t hh n ht ho
    exact Ends.pure hn H ho (r0 := BoolV true) (by rw [show Tryd.f6.results.toList = [.tmp 10] from rfl]; simp -implicitDefEqProofs only [go_sem, ↓reduceIte, Nat.reduceEqDiff, Nat.reduceAdd, Nat.reduceMul, Nat.reduceLT, Nat.reduceLeDiff, reduceCtorEq, Int.toNat_natCast, ht]) (.v _) ⟨rfl, rfl⟩
  refine AWP.seqReg (by kernel_rfl) (fun E K hE hK => ?_); simp -implicitDefEqProofs only [go_sem, ↓reduceIte, Nat.reduceEqDiff, Nat.reduceAdd, Nat.reduceMul, Nat.reduceLT, Nat.reduceLeDiff, reduceCtorEq, Int.toNat_natCast]; refine hK _ _ _ ?_; clear hE hK K E
  refine AWP.seqReg (by kernel_rfl) (fun E K hE hK => ?_); simp -implicitDefEqProofs only [go_sem, ↓reduceIte, Nat.reduceEqDiff, Nat.reduceAdd, Nat.reduceMul, Nat.reduceLT, Nat.reduceLeDiff, reduceCtorEq, Int.toNat_natCast]
  refine CallR.use (live_ok _ _) body_15 ?_; rintro _ h_ ⟨rfl, e_⟩; rw [e_]; clear e_ h_; simp -implicitDefEqProofs only [go_sem, ↓reduceIte, Nat.reduceEqDiff, Nat.reduceAdd, Nat.reduceMul, Nat.reduceLT, Nat.reduceLeDiff, reduceCtorEq, Int.toNat_natCast]
  refine hK _ _ _ ?_; clear hE hK K E
  refine AWP.seq ?_
  cases c1 : fewD l
  · refine AWP.seqReg (by kernel_rfl) (fun E K hE hK => ?_); simp -implicitDefEqProofs only [go_sem, ↓reduceIte, Nat.reduceEqDiff, Nat.reduceAdd, Nat.reduceMul, Nat.reduceLT, Nat.reduceLeDiff, reduceCtorEq, Int.toNat_natCast]
    refine CallR.use (fewD_ok l (by omega) (fun d hd => Nat.le_trans (hl2 d hd) hmx) _ _) body_16 ?_; rintro _ h_ ⟨rfl, e_⟩; rw [e_]; clear e_ h_; simp -implicitDefEqProofs only [go_sem, ↓reduceIte, Nat.reduceEqDiff, Nat.reduceAdd, Nat.reduceMul, Nat.reduceLT, Nat.reduceLeDiff, reduceCtorEq, Int.toNat_natCast]
    simp -implicitDefEqProofs only [go_sem, ↓reduceIte, Nat.reduceEqDiff, Nat.reduceAdd, Nat.reduceMul, Nat.reduceLT, Nat.reduceLeDiff, reduceCtorEq, Int.toNat_natCast, c1]
    refine hK _ _ _ ?_; clear hE hK K E
    refine AWP.ifT (by simp -implicitDefEqProofs only [go_sem, ↓reduceIte, Nat.reduceEqDiff, Nat.reduceAdd, Nat.reduceMul, Nat.reduceLT, Nat.reduceLeDiff, reduceCtorEq, Int.toNat_natCast]) ?_
    refine AWP.seqReg (by kernel_rfl) (fun E K hE hK => ?_); simp -implicitDefEqProofs only [go_sem, ↓reduceIte, Nat.reduceEqDiff, Nat.reduceAdd, Nat.reduceMul, Nat.reduceLT, Nat.reduceLeDiff, reduceCtorEq, Int.toNat_natCast]; refine hK _ _ _ ?_; clear hE hK K E
    refine AWP.ret ?_
    simp -implicitDefEqProofs only [go_sem, ↓reduceIte, Nat.reduceEqDiff, Nat.reduceAdd, Nat.reduceMul, Nat.reduceLT, Nat.reduceLeDiff, reduceCtorEq, Int.toNat_natCast]
    exact fin _ _ _ (by (first | (simp -implicitDefEqProofs only [go_sem, ↓reduceIte, Nat.reduceEqDiff, Nat.reduceAdd, Nat.reduceMul, Nat.reduceLT, Nat.reduceLeDiff, reduceCtorEq, Int.toNat_natCast]; done) | (simp -implicitDefEqProofs only [go_sem, ↓reduceIte, Nat.reduceEqDiff, Nat.reduceAdd, Nat.reduceMul, Nat.reduceLT, Nat.reduceLeDiff, reduceCtorEq, Int.toNat_natCast]; rfl) | rfl)) (fun id (hid : id < b) => by simp -implicitDefEqProofs only [go_sem, ↓reduceIte, Nat.reduceEqDiff, Nat.reduceAdd, Nat.reduceMul, Nat.reduceLT, Nat.reduceLeDiff, reduceCtorEq, Int.toNat_natCast, show ¬ id = b by omega])
  cases c2 : fewN names
  · refine AWP.seqReg (by kernel_rfl) (fun E K hE hK => ?_); simp -implicitDefEqProofs only [go_sem, ↓reduceIte, Nat.reduceEqDiff, Nat.reduceAdd, Nat.reduceMul, Nat.reduceLT, Nat.reduceLeDiff, reduceCtorEq, Int.toNat_natCast]
    refine CallR.use (fewD_ok l (by omega) (fun d hd => Nat.le_trans (hl2 d hd) hmx) _ _) body_16 ?_; rintro _ h_ ⟨rfl, e_⟩; rw [e_]; clear e_ h_; simp -implicitDefEqProofs only [go_sem, ↓reduceIte, Nat.reduceEqDiff, Nat.reduceAdd, Nat.reduceMul, Nat.reduceLT, Nat.reduceLeDiff, reduceCtorEq, Int.toNat_natCast]
    simp -implicitDefEqProofs only [go_sem, ↓reduceIte, Nat.reduceEqDiff, Nat.reduceAdd, Nat.reduceMul, Nat.reduceLT, Nat.reduceLeDiff, reduceCtorEq, Int.toNat_natCast, c1]
    refine CallR.use (fewNames_ok names (by omega) _ _) body_21 ?_; rintro _ h_ ⟨rfl, e_⟩; rw [e_]; clear e_ h_; simp -implicitDefEqProofs only [go_sem, ↓reduceIte, Nat.reduceEqDiff, Nat.reduceAdd, Nat.reduceMul, Nat.reduceLT, Nat.reduceLeDiff, reduceCtorEq, Int.toNat_natCast]
    simp -implicitDefEqProofs only [go_sem, ↓reduceIte, Nat.reduceEqDiff, Nat.reduceAdd, Nat.reduceMul, Nat.reduceLT, Nat.reduceLeDiff, reduceCtorEq, Int.toNat_natCast, c2]
    refine hK _ _ _ ?_; clear hE hK K E
    refine AWP.ifT (by simp -implicitDefEqProofs only [go_sem, ↓reduceIte, Nat.reduceEqDiff, Nat.reduceAdd, Nat.reduceMul, Nat.reduceLT, Nat.reduceLeDiff, reduceCtorEq, Int.toNat_natCast]) ?_
    refine AWP.seqReg (by kernel_rfl) (fun E K hE hK => ?_); simp -implicitDefEqProofs only [go_sem, ↓reduceIte, Nat.reduceEqDiff, Nat.reduceAdd, Nat.reduceMul, Nat.reduceLT, Nat.reduceLeDiff, reduceCtorEq, Int.toNat_natCast]; refine hK _ _ _ ?_; clear hE hK K E
    refine AWP.ret ?_
    simp -implicitDefEqProofs only [go_sem, ↓reduceIte, Nat.reduceEqDiff, Nat.reduceAdd, Nat.reduceMul, Nat.reduceLT, Nat.reduceLeDiff, reduceCtorEq, Int.toNat_natCast]
    exact fin _ _ _ (by (first | (simp -implicitDefEqProofs only [go_sem, ↓reduceIte, Nat.reduceEqDiff, Nat.reduceAdd, Nat.reduceMul, Nat.reduceLT, Nat.reduceLeDiff, reduceCtorEq, Int.toNat_natCast]; done) | (simp -implicitDefEqProofs only [go_sem, ↓reduceIte, Nat.reduceEqDiff, Nat.reduceAdd, Nat.reduceMul, Nat.reduceLT, Nat.reduceLeDiff, reduceCtorEq, Int.toNat_natCast]; rfl) | rfl)) (fun id (hid : id < b) => by simp -implicitDefEqProofs only [go_sem, ↓reduceIte, Nat.reduceEqDiff, Nat.reduceAdd, Nat.reduceMul, Nat.reduceLT, Nat.reduceLeDiff, reduceCtorEq, Int.toNat_natCast, show ¬ id = b by omega])
  cases c3 : fewN rn && fewN rd
  · refine AWP.seqReg (by kernel_rfl) (fun E K hE hK => ?_); simp -implicitDefEqProofs only [go_sem, ↓reduceIte, Nat.reduceEqDiff, Nat.reduceAdd, Nat.reduceMul, Nat.reduceLT, Nat.reduceLeDiff, reduceCtorEq, Int.toNat_natCast]
    refine CallR.use (fewD_ok l (by omega) (fun d hd => Nat.le_trans (hl2 d hd) hmx) _ _) body_16 ?_; rintro _ h_ ⟨rfl, e_⟩; rw [e_]; clear e_ h_; simp -implicitDefEqProofs only [go_sem, ↓reduceIte, Nat.reduceEqDiff, Nat.reduceAdd, Nat.reduceMul, Nat.reduceLT, Nat.reduceLeDiff, reduceCtorEq, Int.toNat_natCast]
    simp -implicitDefEqProofs only [go_sem, ↓reduceIte, Nat.reduceEqDiff, Nat.reduceAdd, Nat.reduceMul, Nat.reduceLT, Nat.reduceLeDiff, reduceCtorEq, Int.toNat_natCast, c1]
    refine CallR.use (fewNames_ok names (by omega) _ _) body_21 ?_; rintro _ h_ ⟨rfl, e_⟩; rw [e_]; clear e_ h_; simp -implicitDefEqProofs only [go_sem, ↓reduceIte, Nat.reduceEqDiff, Nat.reduceAdd, Nat.reduceMul, Nat.reduceLT, Nat.reduceLeDiff, reduceCtorEq, Int.toNat_natCast]
    simp -implicitDefEqProofs only [go_sem, ↓reduceIte, Nat.reduceEqDiff, Nat.reduceAdd, Nat.reduceMul, Nat.reduceLT, Nat.reduceLeDiff, reduceCtorEq, Int.toNat_natCast, c2]
    refine CallR.use (few_ok rn rd (by omega) (by omega) _ _) body_17 ?_; rintro _ h_ ⟨rfl, e_⟩; rw [e_]; clear e_ h_; simp -implicitDefEqProofs only [go_sem, ↓reduceIte, Nat.reduceEqDiff, Nat.reduceAdd, Nat.reduceMul, Nat.reduceLT, Nat.reduceLeDiff, reduceCtorEq, Int.toNat_natCast]
    simp -implicitDefEqProofs only [go_sem, ↓reduceIte, Nat.reduceEqDiff, Nat.reduceAdd, Nat.reduceMul, Nat.reduceLT, Nat.reduceLeDiff, reduceCtorEq, Int.toNat_natCast, c3]
    refine hK _ _ _ ?_; clear hE hK K E
    refine AWP.ifT (by simp -implicitDefEqProofs only [go_sem, ↓reduceIte, Nat.reduceEqDiff, Nat.reduceAdd, Nat.reduceMul, Nat.reduceLT, Nat.reduceLeDiff, reduceCtorEq, Int.toNat_natCast]) ?_
    refine AWP.seqReg (by kernel_rfl) (fun E K hE hK => ?_); simp -implicitDefEqProofs only [go_sem, ↓reduceIte, Nat.reduceEqDiff, Nat.reduceAdd, Nat.reduceMul, Nat.reduceLT, Nat.reduceLeDiff, reduceCtorEq, Int.toNat_natCast]; refine hK _ _ _ ?_; clear hE hK K E
    refine AWP.ret ?_
    simp -implicitDefEqProofs only [go_sem, ↓reduceIte, Nat.reduceEqDiff, Nat.reduceAdd, Nat.reduceMul, Nat.reduceLT, Nat.reduceLeDiff, reduceCtorEq, Int.toNat_natCast]
    exact fin _ _ _ (by (first | (simp -implicitDefEqProofs only [go_sem, ↓reduceIte, Nat.reduceEqDiff, Nat.reduceAdd, Nat.reduceMul, Nat.reduceLT, Nat.reduceLeDiff, reduceCtorEq, Int.toNat_natCast]; done) | (simp -implicitDefEqProofs only [go_sem, ↓reduceIte, Nat.reduceEqDiff, Nat.reduceAdd, Nat.reduceMul, Nat.reduceLT, Nat.reduceLeDiff, reduceCtorEq, Int.toNat_natCast]; rfl) | rfl)) (fun id (hid : id < b) => by simp -implicitDefEqProofs only [go_sem, ↓reduceIte, Nat.reduceEqDiff, Nat.reduceAdd, Nat.reduceMul, Nat.reduceLT, Nat.reduceLeDiff, reduceCtorEq, Int.toNat_natCast, show ¬ id = b by omega])
  refine AWP.seqReg (by kernel_rfl) (fun E K hE hK => ?_); simp -implicitDefEqProofs only [go_sem, ↓reduceIte, Nat.reduceEqDiff, Nat.reduceAdd, Nat.reduceMul, Nat.reduceLT, Nat.reduceLeDiff, reduceCtorEq, Int.toNat_natCast]
  refine CallR.use (fewD_ok l (by omega) (fun d hd => Nat.le_trans (hl2 d hd) hmx) _ _) body_16 ?_; rintro _ h_ ⟨rfl, e_⟩; rw [e_]; clear e_ h_; simp -implicitDefEqProofs only [go_sem, ↓reduceIte, Nat.reduceEqDiff, Nat.reduceAdd, Nat.reduceMul, Nat.reduceLT, Nat.reduceLeDiff, reduceCtorEq, Int.toNat_natCast]
  simp -implicitDefEqProofs only [go_sem, ↓reduceIte, Nat.reduceEqDiff, Nat.reduceAdd, Nat.reduceMul, Nat.reduceLT, Nat.reduceLeDiff, reduceCtorEq, Int.toNat_natCast, c1]
  refine CallR.use (fewNames_ok names (by omega) _ _) body_21 ?_; rintro _ h_ ⟨rfl, e_⟩; rw [e_]; clear e_ h_; simp -implicitDefEqProofs only [go_sem, ↓reduceIte, Nat.reduceEqDiff, Nat.reduceAdd, Nat.reduceMul, Nat.reduceLT, Nat.reduceLeDiff, reduceCtorEq, Int.toNat_natCast]
  simp -implicitDefEqProofs only [go_sem, ↓reduceIte, Nat.reduceEqDiff, Nat.reduceAdd, Nat.reduceMul, Nat.reduceLT, Nat.reduceLeDiff, reduceCtorEq, Int.toNat_natCast, c2]
  refine CallR.use (few_ok rn rd (by omega) (by omega) _ _) body_17 ?_; rintro _ h_ ⟨rfl, e_⟩; rw [e_]; clear e_ h_; simp -implicitDefEqProofs only [go_sem, ↓reduceIte, Nat.reduceEqDiff, Nat.reduceAdd, Nat.reduceMul, Nat.reduceLT, Nat.reduceLeDiff, reduceCtorEq, Int.toNat_natCast]
  simp -implicitDefEqProofs only [go_sem, ↓reduceIte, Nat.reduceEqDiff, Nat.reduceAdd, Nat.reduceMul, Nat.reduceLT, Nat.reduceLeDiff, reduceCtorEq, Int.toNat_natCast, c3]
  refine hK _ _ _ ?_; clear hE hK K E
  refine AWP.ifF (by simp -implicitDefEqProofs only [go_sem, ↓reduceIte, Nat.reduceEqDiff, Nat.reduceAdd, Nat.reduceMul, Nat.reduceLT, Nat.reduceLeDiff, reduceCtorEq, Int.toNat_natCast]) ?_; refine AWP.skip ?_; simp -implicitDefEqProofs only [go_sem, ↓reduceIte, Nat.reduceEqDiff, Nat.reduceAdd, Nat.reduceMul, Nat.reduceLT, Nat.reduceLeDiff, reduceCtorEq, Int.toNat_natCast]
  have hsz := fewD_sizeD c1
  have hs2 := fewD_size c1
  have hnm := fewN_len c2
  have c3' := c3
  rw [Bool.and_eq_true] at c3'
  have hrn := fewN_len c3'.1
  have hrd := fewN_len c3'.2
  obtain ⟨m, e, ha⟩ : ∃ m e, addR l gen names = (m, e) := ⟨_, _, rfl⟩
  obtain ⟨at1, ce, hc⟩ : ∃ at1 ce, clashR l begin rn rd = (at1, ce) := ⟨_, _, rfl⟩
  refine AWP.seqReg (by kernel_rfl) (fun E K hE hK => ?_); simp -implicitDefEqProofs only [go_sem, ↓reduceIte, Nat.reduceEqDiff, Nat.reduceAdd, Nat.reduceMul, Nat.reduceLT, Nat.reduceLeDiff, reduceCtorEq, Int.toNat_natCast]
  refine CallR.use (vAdd_ok l gen names hsz (by omega) (by omega) _ _) body_26 ?_; rintro _ h_ ⟨rfl, e_⟩; rw [e_]; clear e_ h_; simp -implicitDefEqProofs only [go_sem, ↓reduceIte, Nat.reduceEqDiff, Nat.reduceAdd, Nat.reduceMul, Nat.reduceLT, Nat.reduceLeDiff, reduceCtorEq, Int.toNat_natCast]
  simp -implicitDefEqProofs only [go_sem, ↓reduceIte, Nat.reduceEqDiff, Nat.reduceAdd, Nat.reduceMul, Nat.reduceLT, Nat.reduceLeDiff, reduceCtorEq, Int.toNat_natCast, ha]
  refine hK _ _ _ ?_; clear hE hK K E
  refine AWP.seqReg (by kernel_rfl) (fun E K hE hK => ?_); simp -implicitDefEqProofs only [go_sem, ↓reduceIte, Nat.reduceEqDiff, Nat.reduceAdd, Nat.reduceMul, Nat.reduceLT, Nat.reduceLeDiff, reduceCtorEq, Int.toNat_natCast]
  refine CallR.use (vClash_ok l begin rn rd hsz (by omega) (by omega) _ _) body_20 ?_; rintro _ h_ ⟨rfl, e_⟩; rw [e_]; clear e_ h_; simp -implicitDefEqProofs only [go_sem, ↓reduceIte, Nat.reduceEqDiff, Nat.reduceAdd, Nat.reduceMul, Nat.reduceLT, Nat.reduceLeDiff, reduceCtorEq, Int.toNat_natCast]
  simp -implicitDefEqProofs only [go_sem, ↓reduceIte, Nat.reduceEqDiff, Nat.reduceAdd, Nat.reduceMul, Nat.reduceLT, Nat.reduceLeDiff, reduceCtorEq, Int.toNat_natCast, hc]
  refine hK _ _ _ ?_; clear hE hK K E
  refine AWP.seq ?_
  by_cases b1 : e = 0
  case neg =>
    refine AWP.seqReg (by kernel_rfl) (fun E K hE hK => ?_); simp -implicitDefEqProofs only [go_sem, ↓reduceIte, Nat.reduceEqDiff, Nat.reduceAdd, Nat.reduceMul, Nat.reduceLT, Nat.reduceLeDiff, reduceCtorEq, Int.toNat_natCast, b1]; refine hK _ _ _ ?_; clear hE hK K E
    refine AWP.ifT (by simp -implicitDefEqProofs only [go_sem, ↓reduceIte, Nat.reduceEqDiff, Nat.reduceAdd, Nat.reduceMul, Nat.reduceLT, Nat.reduceLeDiff, reduceCtorEq, Int.toNat_natCast]) ?_
    refine AWP.seqReg (by kernel_rfl) (fun E K hE hK => ?_); simp -implicitDefEqProofs only [go_sem, ↓reduceIte, Nat.reduceEqDiff, Nat.reduceAdd, Nat.reduceMul, Nat.reduceLT, Nat.reduceLeDiff, reduceCtorEq, Int.toNat_natCast]; refine hK _ _ _ ?_; clear hE hK K E
    refine AWP.ret ?_
    simp -implicitDefEqProofs only [go_sem, ↓reduceIte, Nat.reduceEqDiff, Nat.reduceAdd, Nat.reduceMul, Nat.reduceLT, Nat.reduceLeDiff, reduceCtorEq, Int.toNat_natCast]
    exact fin _ _ _ (by (first | (simp -implicitDefEqProofs only [go_sem, ↓reduceIte, Nat.reduceEqDiff, Nat.reduceAdd, Nat.reduceMul, Nat.reduceLT, Nat.reduceLeDiff, reduceCtorEq, Int.toNat_natCast]; done) | (simp -implicitDefEqProofs only [go_sem, ↓reduceIte, Nat.reduceEqDiff, Nat.reduceAdd, Nat.reduceMul, Nat.reduceLT, Nat.reduceLeDiff, reduceCtorEq, Int.toNat_natCast]; rfl) | rfl)) (fun id (hid : id < b) => by simp -implicitDefEqProofs only [go_sem, ↓reduceIte, Nat.reduceEqDiff, Nat.reduceAdd, Nat.reduceMul, Nat.reduceLT, Nat.reduceLeDiff, reduceCtorEq, Int.toNat_natCast, show ¬ id = b by omega])
  subst b1
  by_cases b2 : ce = 1
  case pos =>
    subst b2
    refine AWP.seqReg (by kernel_rfl) (fun E K hE hK => ?_); simp -implicitDefEqProofs only [go_sem, ↓reduceIte, Nat.reduceEqDiff, Nat.reduceAdd, Nat.reduceMul, Nat.reduceLT, Nat.reduceLeDiff, reduceCtorEq, Int.toNat_natCast]; refine hK _ _ _ ?_; clear hE hK K E
    refine AWP.ifT (by simp -implicitDefEqProofs only [go_sem, ↓reduceIte, Nat.reduceEqDiff, Nat.reduceAdd, Nat.reduceMul, Nat.reduceLT, Nat.reduceLeDiff, reduceCtorEq, Int.toNat_natCast]) ?_
    refine AWP.seqReg (by kernel_rfl) (fun E K hE hK => ?_); simp -implicitDefEqProofs only [go_sem, ↓reduceIte, Nat.reduceEqDiff, Nat.reduceAdd, Nat.reduceMul, Nat.reduceLT, Nat.reduceLeDiff, reduceCtorEq, Int.toNat_natCast]; refine hK _ _ _ ?_; clear hE hK K E
    refine AWP.ret ?_
    simp -implicitDefEqProofs only [go_sem, ↓reduceIte, Nat.reduceEqDiff, Nat.reduceAdd, Nat.reduceMul, Nat.reduceLT, Nat.reduceLeDiff, reduceCtorEq, Int.toNat_natCast]
    exact fin _ _ _ (by (first | (simp -implicitDefEqProofs only [go_sem, ↓reduceIte, Nat.reduceEqDiff, Nat.reduceAdd, Nat.reduceMul, Nat.reduceLT, Nat.reduceLeDiff, reduceCtorEq, Int.toNat_natCast]; done) | (simp -implicitDefEqProofs only [go_sem, ↓reduceIte, Nat.reduceEqDiff, Nat.reduceAdd, Nat.reduceMul, Nat.reduceLT, Nat.reduceLeDiff, reduceCtorEq, Int.toNat_natCast]; rfl) | rfl)) (fun id (hid : id < b) => by simp -implicitDefEqProofs only [go_sem, ↓reduceIte, Nat.reduceEqDiff, Nat.reduceAdd, Nat.reduceMul, Nat.reduceLT, Nat.reduceLeDiff, reduceCtorEq, Int.toNat_natCast, show ¬ id = b by omega])
  refine AWP.seqReg (by kernel_rfl) (fun E K hE hK => ?_); simp -implicitDefEqProofs only [go_sem, ↓reduceIte, Nat.reduceEqDiff, Nat.reduceAdd, Nat.reduceMul, Nat.reduceLT, Nat.reduceLeDiff, reduceCtorEq, Int.toNat_natCast, b2]; refine hK _ _ _ ?_; clear hE hK K E
  refine AWP.ifF (by simp -implicitDefEqProofs only [go_sem, ↓reduceIte, Nat.reduceEqDiff, Nat.reduceAdd, Nat.reduceMul, Nat.reduceLT, Nat.reduceLeDiff, reduceCtorEq, Int.toNat_natCast]) ?_; refine AWP.skip ?_; simp -implicitDefEqProofs only [go_sem, ↓reduceIte, Nat.reduceEqDiff, Nat.reduceAdd, Nat.reduceMul, Nat.reduceLT, Nat.reduceLeDiff, reduceCtorEq, Int.toNat_natCast]
  have hg : ¬ (checkX l ≠ 0 ∨ mayX rn rd ≠ 0) := fun h => b2 (by have := (clashR_bad (l := l) (begin := begin) (rn := rn) (rd := rd)).2 h; rw [hc] at this; exact this)
  have hm : mayX rn rd = 0 := by
    by_cases q : mayX rn rd = 0
    · exact q
    · exact absurd (.inr q) hg
  obtain ⟨ht, hcm⟩ := add_clash (begin := begin) ha hm
  rw [hc] at hcm
  simp only at hcm
  obtain ⟨hme, _, _, _⟩ := addR_ok ha
  have hszm : sizeD m := by
    rw [hme]
    refine ⟨by rw [List.length_append]; simp; omega, fun x hx => ?_⟩
    rcases List.mem_append.1 hx with hx | hx
    · exact hsz.2 x hx
    · simp at hx; subst hx; simp; omega
  obtain ⟨a2, e2, hc2⟩ : ∃ a2 e2, clashR m begin rn rd = (a2, e2) := ⟨_, _, rfl⟩
  rw [hc2] at hcm
  refine AWP.seqReg (by kernel_rfl) (fun E K hE hK => ?_); simp -implicitDefEqProofs only [go_sem, ↓reduceIte, Nat.reduceEqDiff, Nat.reduceAdd, Nat.reduceMul, Nat.reduceLT, Nat.reduceLeDiff, reduceCtorEq, Int.toNat_natCast]
  refine CallR.use (vClash_ok m begin rn rd hszm (by omega) (by omega) _ _) body_20 ?_; rintro _ h_ ⟨rfl, e_⟩; rw [e_]; clear e_ h_; simp -implicitDefEqProofs only [go_sem, ↓reduceIte, Nat.reduceEqDiff, Nat.reduceAdd, Nat.reduceMul, Nat.reduceLT, Nat.reduceLeDiff, reduceCtorEq, Int.toNat_natCast]
  simp -implicitDefEqProofs only [go_sem, ↓reduceIte, Nat.reduceEqDiff, Nat.reduceAdd, Nat.reduceMul, Nat.reduceLT, Nat.reduceLeDiff, reduceCtorEq, Int.toNat_natCast, hc2]
  refine hK _ _ _ ?_; clear hE hK K E
  refine AWP.seqReg (by kernel_rfl) (fun E K hE hK => ?_); simp -implicitDefEqProofs only [go_sem, ↓reduceIte, Nat.reduceEqDiff, Nat.reduceAdd, Nat.reduceMul, Nat.reduceLT, Nat.reduceLeDiff, reduceCtorEq, Int.toNat_natCast]
  refine CallR.use (vTouch_ok rn rd names (by omega) (by omega) (by omega) _ _) body_22 ?_; rintro _ h_ ⟨rfl, e_⟩; rw [e_]; clear e_ h_; simp -implicitDefEqProofs only [go_sem, ↓reduceIte, Nat.reduceEqDiff, Nat.reduceAdd, Nat.reduceMul, Nat.reduceLT, Nat.reduceLeDiff, reduceCtorEq, Int.toNat_natCast]
  simp -implicitDefEqProofs only [go_sem, ↓reduceIte, Nat.reduceEqDiff, Nat.reduceAdd, Nat.reduceMul, Nat.reduceLT, Nat.reduceLeDiff, reduceCtorEq, Int.toNat_natCast, ht]
  refine hK _ _ _ ?_; clear hE hK K E
  refine AWP.seq ?_
  refine AWP.seqReg (by kernel_rfl) (fun E K hE hK => ?_); simp -implicitDefEqProofs only [go_sem, ↓reduceIte, Nat.reduceEqDiff, Nat.reduceAdd, Nat.reduceMul, Nat.reduceLT, Nat.reduceLeDiff, reduceCtorEq, Int.toNat_natCast]; refine hK _ _ _ ?_; clear hE hK K E
  refine AWP.ifF (by simp -implicitDefEqProofs only [go_sem, ↓reduceIte, Nat.reduceEqDiff, Nat.reduceAdd, Nat.reduceMul, Nat.reduceLT, Nat.reduceLeDiff, reduceCtorEq, Int.toNat_natCast]) ?_; refine AWP.skip ?_; simp -implicitDefEqProofs only [go_sem, ↓reduceIte, Nat.reduceEqDiff, Nat.reduceAdd, Nat.reduceMul, Nat.reduceLT, Nat.reduceLeDiff, reduceCtorEq, Int.toNat_natCast]
  refine AWP.seq ?_
  by_cases b3 : ce = 9
  case pos =>
    subst b3
    rw [if_pos rfl] at hcm
    obtain ⟨rfl, rfl⟩ := Prod.mk.inj hcm
    refine AWP.seqReg (by kernel_rfl) (fun E K hE hK => ?_); simp -implicitDefEqProofs only [go_sem, ↓reduceIte, Nat.reduceEqDiff, Nat.reduceAdd, Nat.reduceMul, Nat.reduceLT, Nat.reduceLeDiff, reduceCtorEq, Int.toNat_natCast]
    refine hK _ _ _ ?_; clear hE hK K E
    refine AWP.ifT (by simp -implicitDefEqProofs only [go_sem, ↓reduceIte, Nat.reduceEqDiff, Nat.reduceAdd, Nat.reduceMul, Nat.reduceLT, Nat.reduceLeDiff, reduceCtorEq, Int.toNat_natCast]) ?_
    refine AWP.seqReg (by kernel_rfl) (fun E K hE hK => ?_); simp -implicitDefEqProofs only [go_sem, ↓reduceIte, Nat.reduceEqDiff, Nat.reduceAdd, Nat.reduceMul, Nat.reduceLT, Nat.reduceLeDiff, reduceCtorEq, Int.toNat_natCast]; refine hK _ _ _ ?_; clear hE hK K E
    refine AWP.ret ?_
    simp -implicitDefEqProofs only [go_sem, ↓reduceIte, Nat.reduceEqDiff, Nat.reduceAdd, Nat.reduceMul, Nat.reduceLT, Nat.reduceLeDiff, reduceCtorEq, Int.toNat_natCast]
    exact fin _ _ _ (by (first | (simp -implicitDefEqProofs only [go_sem, ↓reduceIte, Nat.reduceEqDiff, Nat.reduceAdd, Nat.reduceMul, Nat.reduceLT, Nat.reduceLeDiff, reduceCtorEq, Int.toNat_natCast]; done) | (simp -implicitDefEqProofs only [go_sem, ↓reduceIte, Nat.reduceEqDiff, Nat.reduceAdd, Nat.reduceMul, Nat.reduceLT, Nat.reduceLeDiff, reduceCtorEq, Int.toNat_natCast]; rfl) | rfl)) (fun id (hid : id < b) => by simp -implicitDefEqProofs only [go_sem, ↓reduceIte, Nat.reduceEqDiff, Nat.reduceAdd, Nat.reduceMul, Nat.reduceLT, Nat.reduceLeDiff, reduceCtorEq, Int.toNat_natCast, show ¬ id = b by omega])
  rw [if_neg b3] at hcm
  cases b4 : touchX rn rd names
  · rw [if_neg (by rw [b4]; simp)] at hcm
    obtain ⟨rfl, rfl⟩ := Prod.mk.inj hcm
    refine AWP.seqReg (by kernel_rfl) (fun E K hE hK => ?_); simp -implicitDefEqProofs only [go_sem, ↓reduceIte, Nat.reduceEqDiff, Nat.reduceAdd, Nat.reduceMul, Nat.reduceLT, Nat.reduceLeDiff, reduceCtorEq, Int.toNat_natCast, b3, b4]
    refine hK _ _ _ ?_; clear hE hK K E
    refine AWP.ifT (by simp -implicitDefEqProofs only [go_sem, ↓reduceIte, Nat.reduceEqDiff, Nat.reduceAdd, Nat.reduceMul, Nat.reduceLT, Nat.reduceLeDiff, reduceCtorEq, Int.toNat_natCast]) ?_
    refine AWP.seqReg (by kernel_rfl) (fun E K hE hK => ?_); simp -implicitDefEqProofs only [go_sem, ↓reduceIte, Nat.reduceEqDiff, Nat.reduceAdd, Nat.reduceMul, Nat.reduceLT, Nat.reduceLeDiff, reduceCtorEq, Int.toNat_natCast]; refine hK _ _ _ ?_; clear hE hK K E
    refine AWP.ret ?_
    simp -implicitDefEqProofs only [go_sem, ↓reduceIte, Nat.reduceEqDiff, Nat.reduceAdd, Nat.reduceMul, Nat.reduceLT, Nat.reduceLeDiff, reduceCtorEq, Int.toNat_natCast]
    exact fin _ _ _ (by (first | (simp -implicitDefEqProofs only [go_sem, ↓reduceIte, Nat.reduceEqDiff, Nat.reduceAdd, Nat.reduceMul, Nat.reduceLT, Nat.reduceLeDiff, reduceCtorEq, Int.toNat_natCast]; done) | (simp -implicitDefEqProofs only [go_sem, ↓reduceIte, Nat.reduceEqDiff, Nat.reduceAdd, Nat.reduceMul, Nat.reduceLT, Nat.reduceLeDiff, reduceCtorEq, Int.toNat_natCast]; rfl) | rfl)) (fun id (hid : id < b) => by simp -implicitDefEqProofs only [go_sem, ↓reduceIte, Nat.reduceEqDiff, Nat.reduceAdd, Nat.reduceMul, Nat.reduceLT, Nat.reduceLeDiff, reduceCtorEq, Int.toNat_natCast, show ¬ id = b by omega])
  by_cases b5 : gen ≤ begin
  · rw [if_neg (by omega)] at hcm
    obtain ⟨rfl, rfl⟩ := Prod.mk.inj hcm
    refine AWP.seqReg (by kernel_rfl) (fun E K hE hK => ?_); simp -implicitDefEqProofs only [go_sem, ↓reduceIte, Nat.reduceEqDiff, Nat.reduceAdd, Nat.reduceMul, Nat.reduceLT, Nat.reduceLeDiff, reduceCtorEq, Int.toNat_natCast, b3, b4, b5]
    refine hK _ _ _ ?_; clear hE hK K E
    refine AWP.ifT (by simp -implicitDefEqProofs only [go_sem, ↓reduceIte, Nat.reduceEqDiff, Nat.reduceAdd, Nat.reduceMul, Nat.reduceLT, Nat.reduceLeDiff, reduceCtorEq, Int.toNat_natCast]) ?_
    refine AWP.seqReg (by kernel_rfl) (fun E K hE hK => ?_); simp -implicitDefEqProofs only [go_sem, ↓reduceIte, Nat.reduceEqDiff, Nat.reduceAdd, Nat.reduceMul, Nat.reduceLT, Nat.reduceLeDiff, reduceCtorEq, Int.toNat_natCast]; refine hK _ _ _ ?_; clear hE hK K E
    refine AWP.ret ?_
    simp -implicitDefEqProofs only [go_sem, ↓reduceIte, Nat.reduceEqDiff, Nat.reduceAdd, Nat.reduceMul, Nat.reduceLT, Nat.reduceLeDiff, reduceCtorEq, Int.toNat_natCast]
    exact fin _ _ _ (by (first | (simp -implicitDefEqProofs only [go_sem, ↓reduceIte, Nat.reduceEqDiff, Nat.reduceAdd, Nat.reduceMul, Nat.reduceLT, Nat.reduceLeDiff, reduceCtorEq, Int.toNat_natCast]; done) | (simp -implicitDefEqProofs only [go_sem, ↓reduceIte, Nat.reduceEqDiff, Nat.reduceAdd, Nat.reduceMul, Nat.reduceLT, Nat.reduceLeDiff, reduceCtorEq, Int.toNat_natCast]; rfl) | rfl)) (fun id (hid : id < b) => by simp -implicitDefEqProofs only [go_sem, ↓reduceIte, Nat.reduceEqDiff, Nat.reduceAdd, Nat.reduceMul, Nat.reduceLT, Nat.reduceLeDiff, reduceCtorEq, Int.toNat_natCast, show ¬ id = b by omega])
  rw [if_pos ⟨by omega, b4⟩] at hcm
  obtain ⟨rfl, rfl⟩ := Prod.mk.inj hcm
  refine AWP.seqReg (by kernel_rfl) (fun E K hE hK => ?_); simp -implicitDefEqProofs only [go_sem, ↓reduceIte, Nat.reduceEqDiff, Nat.reduceAdd, Nat.reduceMul, Nat.reduceLT, Nat.reduceLeDiff, reduceCtorEq, Int.toNat_natCast, b3, b4, b5]; refine hK _ _ _ ?_; clear hE hK K E
  refine AWP.ifF (by simp -implicitDefEqProofs only [go_sem, ↓reduceIte, Nat.reduceEqDiff, Nat.reduceAdd, Nat.reduceMul, Nat.reduceLT, Nat.reduceLeDiff, reduceCtorEq, Int.toNat_natCast]) ?_; refine AWP.skip ?_; simp -implicitDefEqProofs only [go_sem, ↓reduceIte, Nat.reduceEqDiff, Nat.reduceAdd, Nat.reduceMul, Nat.reduceLT, Nat.reduceLeDiff, reduceCtorEq, Int.toNat_natCast]
  refine AWP.seqReg (by kernel_rfl) (fun E K hE hK => ?_); simp -implicitDefEqProofs only [go_sem, ↓reduceIte, Nat.reduceEqDiff, Nat.reduceAdd, Nat.reduceMul, Nat.reduceLT, Nat.reduceLeDiff, reduceCtorEq, Int.toNat_natCast]; refine hK _ _ _ ?_; clear hE hK K E
  refine AWP.ret ?_
  exact fin _ _ _ (by (first | (simp -implicitDefEqProofs only [go_sem, ↓reduceIte, Nat.reduceEqDiff, Nat.reduceAdd, Nat.reduceMul, Nat.reduceLT, Nat.reduceLeDiff, reduceCtorEq, Int.toNat_natCast]; done) | (simp -implicitDefEqProofs only [go_sem, ↓reduceIte, Nat.reduceEqDiff, Nat.reduceAdd, Nat.reduceMul, Nat.reduceLT, Nat.reduceLeDiff, reduceCtorEq, Int.toNat_natCast]; rfl) | rfl)) (fun id (hid : id < b) => by simp -implicitDefEqProofs only [go_sem, ↓reduceIte, Nat.reduceEqDiff, Nat.reduceAdd, Nat.reduceMul, Nat.reduceLT, Nat.reduceLeDiff, reduceCtorEq, Int.toNat_natCast, show ¬ id = b by omega])

end Go.Proofs.YtengjcdilnikhaaDoor
