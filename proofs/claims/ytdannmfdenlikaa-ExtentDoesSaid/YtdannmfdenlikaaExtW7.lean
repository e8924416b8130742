/-
  Walks of package extent: Give.
-/
import Derived.Test.YtdannmfdenlikaaExtW6
namespace Go.Proofs.Ytdannmfdenlikaa
set_option linter.unusedSimpArgs false
set_option linter.unusedVariables false
set_option linter.unnecessarySimpa false
open Go Am
set_option maxRecDepth 100000

/-- behind the search, and at the head of Give's loop, k places looked at -/
def giveI (x : Exts) (s : Ext) (h : Heap) (b : Nat) (st : St) : Prop :=
  st.n = 3 ∧ st.h b = some ⟨0, encX x⟩ ∧ st.h (b + 1) = some ⟨0, (encE s).map .p⟩ ∧ st.h (b + 2) = some ⟨0, [.p (.v (.int .i64 0)), .p (.v (.slice none 0 0))]⟩ ∧ (∀ id, id < b → st.h id = h id) ∧
    st.t 2 = .one (.ptr b 0 0) ∧ st.t 3 = .one (.ptr (b + 1) 0 0) ∧ st.t 4 = .one (.ptr (b + 2) 0 0) ∧ st.t 5 = IntV 0

def giveJ (x : Exts) (s : Ext) (h : Heap) (b k : Nat) (st : St) : Prop :=
  giveI x s h b st ∧ st.t 7 = IntV (fromX x.free s) ∧ st.t 8 = IntV k ∧ fromX x.free s ≤ k ∧ midX x.free s = (x.free.drop (fromX x.free s)).take (k - fromX x.free s) ++ (x.free.drop k).takeWhile (fun f => decide (f.at_ ≤ endW s)) ∧
    ((x.free.drop (fromX x.free s)).take (k - fromX x.free s)).any (hitX s) = false

theorem fromX_le (l : List Ext) (s : Ext) : fromX l s ≤ l.length := by
  unfold fromX
  split
  · exact Nat.le_refl _
  · rename_i h
    rcases idxFrom_spec (fun f : Ext => decide (s.at_ ≤ endW f)) l 0 with e | ⟨i, h1, h2⟩
    · rw [e] at h; exact absurd (by decide) h
    · rw [h2]; simp; omega

theorem give_ok (x : Exts) (s : Ext) (h : Heap) (b : Nat) (hl : x.free.length ≤ 1000000) :
    ACalls Try.prog 11 [ExtsV x, ExtV s] h b 1 (ownR (giveX x s).1 (giveX x s).2 (fun v => .tup [v, IntV (giveX x s).2]) h b) := by
  refine ACalls.enter Try.func11 rfl (by simp [Try.ntmps11]) (fun ι w hn H => ?_)
  have hlow := H.lowCells
  unfold ExtsV ExtV
  refine AWP.seqReg (by kernel_rfl) (fun E K hE hK => ?_); simp -implicitDefEqProofs only [go_sem, ↓reduceIte, Nat.reduceEqDiff, Nat.reduceAdd, Nat.reduceMul, Nat.reduceLT, Nat.reduceLeDiff, reduceCtorEq, Int.toNat_natCast]; refine hK _ _ _ ?_; clear hE hK K E
  refine AWP.seq ?_
  refine AWP.seqReg (by kernel_rfl) (fun E K hE hK => ?_); simp -implicitDefEqProofs only [go_sem, ↓reduceIte, Nat.reduceEqDiff, Nat.reduceAdd, Nat.reduceMul, Nat.reduceLT, Nat.reduceLeDiff, reduceCtorEq, Int.toNat_natCast]
  refine CallR.use (both_ok x s _ _ (by omega)) body_25 ?_; rintro _ h_ ⟨rfl, e_⟩; rw [e_]; clear e_ h_; simp -implicitDefEqProofs only [go_sem, ↓reduceIte, Nat.reduceEqDiff, Nat.reduceAdd, Nat.reduceMul, Nat.reduceLT, Nat.reduceLeDiff, reduceCtorEq, Int.toNat_natCast]
  refine hK _ _ _ ?_; clear hE hK K E
  have bad : ∀ (t : Nat → AV) (hh : Heap) (m : Nat) (e : Int), giveX x s = (⟨0, []⟩, e) → e ≠ 0 → t 4 = .one (.ptr (b + 2) 0 0) → t 5 = IntV e →
      hh (b + 2) = some ⟨0, [.p (.v (.int .i64 0)), .p (.v (.slice none 0 0))]⟩ → (∀ id, id < b → hh id = h id) →
      Am.Ends Try.prog ⟨Try.f11.ntmps, b, ι, h, w⟩ Try.f11 1 (ownR (giveX x s).1 (giveX x s).2 (fun v => .tup [v, IntV (giveX x s).2]) h b) ⟨t, hh, m⟩ := by
    intro t hh m e he hne e4 e5 h5 ho
    rw [he]
    refine Ends.le (m := 0) (Nat.zero_le _) (Ends.pure hn H ho (r0 := .tup [.agg [.p (.v (.int .i64 0)), .p (.v (.slice none 0 0))], IntV e]) (by rw [show Try.f11.results.toList = [.cell 4 26, .tmp 5] from rfl]; simp -implicitDefEqProofs only [go_sem, ↓reduceIte, Nat.reduceEqDiff, Nat.reduceAdd, Nat.reduceMul, Nat.reduceLT, Nat.reduceLeDiff, reduceCtorEq, Int.toNat_natCast, e4, e5, h5])
      (frz_tup2 (frz_agg2 (frz_p _) (frz_p _)) (.v _)) (.inr ⟨hne, rfl, rfl⟩))
  refine AWP.seqReg (by kernel_rfl) (fun E K hE hK => ?_); simp -implicitDefEqProofs only [go_sem, ↓reduceIte, Nat.reduceEqDiff, Nat.reduceAdd, Nat.reduceMul, Nat.reduceLT, Nat.reduceLeDiff, reduceCtorEq, Int.toNat_natCast]
  refine hK _ _ _ ?_; clear hE hK K E
  by_cases hb : bothE x s = 0
  case neg =>
    have hT : giveX x s = (⟨0, []⟩, bothE x s) := by unfold giveX; rw [if_pos hb]
    refine AWP.ifT (by simp -implicitDefEqProofs only [go_sem, ↓reduceIte, Nat.reduceEqDiff, Nat.reduceAdd, Nat.reduceMul, Nat.reduceLT, Nat.reduceLeDiff, reduceCtorEq, Int.toNat_natCast, hb]) ?_
    refine AWP.seqReg (by kernel_rfl) (fun E K hE hK => ?_); simp -implicitDefEqProofs only [go_sem, ↓reduceIte, Nat.reduceEqDiff, Nat.reduceAdd, Nat.reduceMul, Nat.reduceLT, Nat.reduceLeDiff, reduceCtorEq, Int.toNat_natCast]; refine hK _ _ _ ?_; clear hE hK K E
    refine AWP.ret ?_
    simp -implicitDefEqProofs only [go_sem, ↓reduceIte, Nat.reduceEqDiff, Nat.reduceAdd, Nat.reduceMul, Nat.reduceLT, Nat.reduceLeDiff, reduceCtorEq, Int.toNat_natCast]
    exact bad _ _ _ _ hT hb (by simp -implicitDefEqProofs only [go_sem, ↓reduceIte, Nat.reduceEqDiff, Nat.reduceAdd, Nat.reduceMul, Nat.reduceLT, Nat.reduceLeDiff, reduceCtorEq, Int.toNat_natCast]) (by simp -implicitDefEqProofs only [go_sem, ↓reduceIte, Nat.reduceEqDiff, Nat.reduceAdd, Nat.reduceMul, Nat.reduceLT, Nat.reduceLeDiff, reduceCtorEq, Int.toNat_natCast]) (by simp -implicitDefEqProofs only [go_sem, ↓reduceIte, Nat.reduceEqDiff, Nat.reduceAdd, Nat.reduceMul, Nat.reduceLT, Nat.reduceLeDiff, reduceCtorEq, Int.toNat_natCast]) (by intro id hid; simp -implicitDefEqProofs only [go_sem, ↓reduceIte, Nat.reduceEqDiff, Nat.reduceAdd, Nat.reduceMul, Nat.reduceLT, Nat.reduceLeDiff, reduceCtorEq, Int.toNat_natCast, show ¬ id = b by omega, show ¬ id = b + 1 by omega, show ¬ id = b + 2 by omega])
  refine AWP.ifF (by simp -implicitDefEqProofs only [go_sem, ↓reduceIte, Nat.reduceEqDiff, Nat.reduceAdd, Nat.reduceMul, Nat.reduceLT, Nat.reduceLeDiff, reduceCtorEq, Int.toNat_natCast, hb]) ?_; refine AWP.skip ?_; simp -implicitDefEqProofs only [go_sem, ↓reduceIte, Nat.reduceEqDiff, Nat.reduceAdd, Nat.reduceMul, Nat.reduceLT, Nat.reduceLeDiff, reduceCtorEq, Int.toNat_natCast]
  refine AWP.seqReg (by kernel_rfl) (fun E K hE hK => ?_); simp -implicitDefEqProofs only [go_sem, ↓reduceIte, Nat.reduceEqDiff, Nat.reduceAdd, Nat.reduceMul, Nat.reduceLT, Nat.reduceLeDiff, reduceCtorEq, Int.toNat_natCast]
  refine CallR.use (index_ext_ok 27 [.ptr (b + 1) 0 0] (fun f : Ext => decide (s.at_ ≤ endW f)) x.free _ _ body_27 (by simp [lowCs, lowC]) (by omega) (fun e _ => giveF_ok s e _ _ (b + 1) 0 (Nat.add_lt_add_left (by decide) b) (by simp -implicitDefEqProofs only [go_sem, ↓reduceIte, Nat.reduceEqDiff, Nat.reduceAdd, Nat.reduceMul, Nat.reduceLT, Nat.reduceLeDiff, reduceCtorEq, Int.toNat_natCast]; rfl))) body_26 ?_; rintro _ h_ ⟨rfl, e_⟩; rw [e_]; clear e_ h_; simp -implicitDefEqProofs only [go_sem, ↓reduceIte, Nat.reduceEqDiff, Nat.reduceAdd, Nat.reduceMul, Nat.reduceLT, Nat.reduceLeDiff, reduceCtorEq, Int.toNat_natCast]
  refine hK _ _ _ ?_; clear hE hK K E
  have hfl := fromX_le x.free s
  refine AWP.mid (fun st => giveI x s h b st ∧ st.t 7 = IntV (fromX x.free s)) ?_ ?_
  · refine AWP.seqReg (by kernel_rfl) (fun E K hE hK => ?_); simp -implicitDefEqProofs only [go_sem, ↓reduceIte, Nat.reduceEqDiff, Nat.reduceAdd, Nat.reduceMul, Nat.reduceLT, Nat.reduceLeDiff, reduceCtorEq, Int.toNat_natCast]; refine hK _ _ _ ?_; clear hE hK K E
    by_cases hi : idxFrom (fun f : Ext => decide (s.at_ ≤ endW f)) 0 x.free < 0
    · refine AWP.ifT (by simp -implicitDefEqProofs only [go_sem, ↓reduceIte, Nat.reduceEqDiff, Nat.reduceAdd, Nat.reduceMul, Nat.reduceLT, Nat.reduceLeDiff, reduceCtorEq, Int.toNat_natCast, hi]) ?_
      refine AWP.reg (by kernel_rfl) (fun E K hE hK => ?_); simp -implicitDefEqProofs only [go_sem, ↓reduceIte, Nat.reduceEqDiff, Nat.reduceAdd, Nat.reduceMul, Nat.reduceLT, Nat.reduceLeDiff, reduceCtorEq, Int.toNat_natCast]; refine hK _ _ _ ?_; clear hE hK K E
      refine ⟨⟨rfl, by simp -implicitDefEqProofs only [go_sem, ↓reduceIte, Nat.reduceEqDiff, Nat.reduceAdd, Nat.reduceMul, Nat.reduceLT, Nat.reduceLeDiff, reduceCtorEq, Int.toNat_natCast]; rfl, by simp -implicitDefEqProofs only [go_sem, ↓reduceIte, Nat.reduceEqDiff, Nat.reduceAdd, Nat.reduceMul, Nat.reduceLT, Nat.reduceLeDiff, reduceCtorEq, Int.toNat_natCast]; rfl, by simp -implicitDefEqProofs only [go_sem, ↓reduceIte, Nat.reduceEqDiff, Nat.reduceAdd, Nat.reduceMul, Nat.reduceLT, Nat.reduceLeDiff, reduceCtorEq, Int.toNat_natCast], ?_, by simp -implicitDefEqProofs only [go_sem, ↓reduceIte, Nat.reduceEqDiff, Nat.reduceAdd, Nat.reduceMul, Nat.reduceLT, Nat.reduceLeDiff, reduceCtorEq, Int.toNat_natCast], by simp -implicitDefEqProofs only [go_sem, ↓reduceIte, Nat.reduceEqDiff, Nat.reduceAdd, Nat.reduceMul, Nat.reduceLT, Nat.reduceLeDiff, reduceCtorEq, Int.toNat_natCast], by simp -implicitDefEqProofs only [go_sem, ↓reduceIte, Nat.reduceEqDiff, Nat.reduceAdd, Nat.reduceMul, Nat.reduceLT, Nat.reduceLeDiff, reduceCtorEq, Int.toNat_natCast], by simp -implicitDefEqProofs only [go_sem, ↓reduceIte, Nat.reduceEqDiff, Nat.reduceAdd, Nat.reduceMul, Nat.reduceLT, Nat.reduceLeDiff, reduceCtorEq, Int.toNat_natCast]⟩, ?_⟩
      · intro id hid; simp -implicitDefEqProofs only [go_sem, ↓reduceIte, Nat.reduceEqDiff, Nat.reduceAdd, Nat.reduceMul, Nat.reduceLT, Nat.reduceLeDiff, reduceCtorEq, Int.toNat_natCast, show ¬ id = b by omega, show ¬ id = b + 1 by omega, show ¬ id = b + 2 by omega]
      · unfold fromX; rw [if_pos hi]; simp -implicitDefEqProofs only [go_sem, ↓reduceIte, Nat.reduceEqDiff, Nat.reduceAdd, Nat.reduceMul, Nat.reduceLT, Nat.reduceLeDiff, reduceCtorEq, Int.toNat_natCast, List.length_map]
    · refine AWP.ifF (by simp -implicitDefEqProofs only [go_sem, ↓reduceIte, Nat.reduceEqDiff, Nat.reduceAdd, Nat.reduceMul, Nat.reduceLT, Nat.reduceLeDiff, reduceCtorEq, Int.toNat_natCast, hi]) ?_
      refine AWP.skip ?_
      refine ⟨⟨rfl, by simp -implicitDefEqProofs only [go_sem, ↓reduceIte, Nat.reduceEqDiff, Nat.reduceAdd, Nat.reduceMul, Nat.reduceLT, Nat.reduceLeDiff, reduceCtorEq, Int.toNat_natCast]; rfl, by simp -implicitDefEqProofs only [go_sem, ↓reduceIte, Nat.reduceEqDiff, Nat.reduceAdd, Nat.reduceMul, Nat.reduceLT, Nat.reduceLeDiff, reduceCtorEq, Int.toNat_natCast]; rfl, by simp -implicitDefEqProofs only [go_sem, ↓reduceIte, Nat.reduceEqDiff, Nat.reduceAdd, Nat.reduceMul, Nat.reduceLT, Nat.reduceLeDiff, reduceCtorEq, Int.toNat_natCast], ?_, by simp -implicitDefEqProofs only [go_sem, ↓reduceIte, Nat.reduceEqDiff, Nat.reduceAdd, Nat.reduceMul, Nat.reduceLT, Nat.reduceLeDiff, reduceCtorEq, Int.toNat_natCast], by simp -implicitDefEqProofs only [go_sem, ↓reduceIte, Nat.reduceEqDiff, Nat.reduceAdd, Nat.reduceMul, Nat.reduceLT, Nat.reduceLeDiff, reduceCtorEq, Int.toNat_natCast], by simp -implicitDefEqProofs only [go_sem, ↓reduceIte, Nat.reduceEqDiff, Nat.reduceAdd, Nat.reduceMul, Nat.reduceLT, Nat.reduceLeDiff, reduceCtorEq, Int.toNat_natCast], by simp -implicitDefEqProofs only [go_sem, ↓reduceIte, Nat.reduceEqDiff, Nat.reduceAdd, Nat.reduceMul, Nat.reduceLT, Nat.reduceLeDiff, reduceCtorEq, Int.toNat_natCast]⟩, ?_⟩
      · intro id hid; simp -implicitDefEqProofs only [go_sem, ↓reduceIte, Nat.reduceEqDiff, Nat.reduceAdd, Nat.reduceMul, Nat.reduceLT, Nat.reduceLeDiff, reduceCtorEq, Int.toNat_natCast, show ¬ id = b by omega, show ¬ id = b + 1 by omega, show ¬ id = b + 2 by omega]
      · unfold fromX; rw [if_neg hi]; simp -implicitDefEqProofs only [go_sem, ↓reduceIte, Nat.reduceEqDiff, Nat.reduceAdd, Nat.reduceMul, Nat.reduceLT, Nat.reduceLeDiff, reduceCtorEq, Int.toNat_natCast, Int.toNat_of_nonneg (show 0 ≤ idxFrom (fun f : Ext => decide (s.at_ ≤ endW f)) 0 x.free by omega)]
  rintro ⟨t, hh, m⟩ ⟨⟨hm, hb0, hb1, hb2, ho, e2, e3, e4, e5⟩, e7⟩
  simp only at hb0 hb1 hb2 ho e2 e3 e4 e5 e7 hm
  subst hm
  refine AWP.seqReg (by kernel_rfl) (fun E K hE hK => ?_); simp -implicitDefEqProofs only [go_sem, ↓reduceIte, Nat.reduceEqDiff, Nat.reduceAdd, Nat.reduceMul, Nat.reduceLT, Nat.reduceLeDiff, reduceCtorEq, Int.toNat_natCast, e7]; refine hK _ _ _ ?_; clear hE hK K E
  refine AWP.mid (fun st => ∃ k, k ≤ x.free.length ∧ giveI x s h b st ∧ st.t 7 = IntV (fromX x.free s) ∧ st.t 8 = IntV k ∧ fromX x.free s ≤ k ∧ midX x.free s = (x.free.drop (fromX x.free s)).take (k - fromX x.free s) ∧ (midX x.free s).any (hitX s) = false) ?_ ?_
  rotate_left
  · rintro ⟨t, hh, m⟩ ⟨k, hk, ⟨hm, hb0, hb1, hb2, ho, e2, e3, e4, e5⟩, e7, e8, hfk, hmid, hany⟩
    simp only at hb0 hb1 hb2 ho e2 e3 e4 e5 e7 e8 hm
    subst hm
    have hml : (midX x.free s).length = k - fromX x.free s := by rw [hmid, List.length_take, List.length_drop]; omega
    have hTX : giveX x s = (⟨x.size, x.free.take (fromX x.free s) ++ (joinX (midX x.free s) s :: x.free.drop k)⟩, 0) := by
      unfold giveX
      rw [if_neg (by rw [hb]; simp), if_neg (by rw [hany]; simp), hml, show fromX x.free s + (k - fromX x.free s) = k by omega]
    have hs1 : ∃ s1, s1 = joinX (midX x.free s) s := ⟨_, rfl⟩
    obtain ⟨s1, hs1⟩ := hs1
    rw [← hs1] at hTX
    refine AWP.mid (fun st => giveI x s1 h b st ∧ st.t 7 = IntV (fromX x.free s) ∧ st.t 8 = IntV k) ?_ ?_
    · refine AWP.seqReg (by kernel_rfl) (fun E K hE hK => ?_); simp -implicitDefEqProofs only [go_sem, ↓reduceIte, Nat.reduceEqDiff, Nat.reduceAdd, Nat.reduceMul, Nat.reduceLT, Nat.reduceLeDiff, reduceCtorEq, Int.toNat_natCast, e7, e8]; refine hK _ _ _ ?_; clear hE hK K E
      by_cases hgt : fromX x.free s < k
      · have hgt' : (fromX x.free s : Int) < k := by omega
        refine AWP.ifT (by simp -implicitDefEqProofs only [go_sem, ↓reduceIte, Nat.reduceEqDiff, Nat.reduceAdd, Nat.reduceMul, Nat.reduceLT, Nat.reduceLeDiff, reduceCtorEq, Int.toNat_natCast, hgt']) ?_
        have hk1 : IntKind.i64.wrap ((k : Int) - 1) = ((k - 1 : Nat) : Int) := by rw [wrap_i64 (by omega) (by omega)]; omega
        have hl1 : fromX x.free s < x.free.length := by omega
        have hl2 : k - 1 < x.free.length := by omega
        have hge1 := getD_map_encE x.free _ hl1
        have hge2 := getD_map_encE x.free _ hl2
        have hj : joinX (midX x.free s) s = ⟨min s.at_ x.free[fromX x.free s].at_, W (max (endW s) (endW x.free[k - 1]) - min s.at_ x.free[fromX x.free s].at_)⟩ := by
          have h0 : (midX x.free s).getD 0 ⟨0, 0⟩ = x.free[fromX x.free s] := by
            rw [hmid, List.getD, List.getElem?_take, if_pos (by omega), List.getElem?_drop, Nat.add_zero, List.getElem?_eq_getElem hl1]; rfl
          have h1 : (midX x.free s).getD ((midX x.free s).length - 1) ⟨0, 0⟩ = x.free[k - 1] := by
            rw [hml, hmid, List.getD, List.getElem?_take, if_pos (by omega), List.getElem?_drop, show fromX x.free s + (k - fromX x.free s - 1) = k - 1 by omega, List.getElem?_eq_getElem hl2]; rfl
          unfold joinX
          rw [if_neg (fun hh => by rw [hh] at hml; simp at hml; omega), h0, h1]
        rw [hj] at hs1
        generalize x.free[fromX x.free s] = f0 at hge1 hs1
        generalize x.free[k - 1] = f1 at hge2 hs1
        refine AWP.seqRegD [] [] [] mixed (by kernel_rfl) (by kernel_rfl) (fun K hK => .inl ?_) (by kernel_rfl); simp -implicitDefEqProofs only [go_sem, ↓reduceIte, Nat.reduceEqDiff, Nat.reduceAdd, Nat.reduceMul, Nat.reduceLT, Nat.reduceLeDiff, reduceCtorEq, Int.toNat_natCast, hb0, hb1, encX, encE, e2, e3, e7, e8, hge1, hge2, hk1]
        refine ⟨⟨by omega, by omega⟩, ?_⟩
        refine CallD.use (end_ok s _ _) body_28 ?_; rintro _ h_ ⟨rfl, e_⟩; rw [e_]; clear e_ h_; refine ⟨Sub.refl _, ?_⟩; simp -implicitDefEqProofs only [go_sem, ↓reduceIte, Nat.reduceEqDiff, Nat.reduceAdd, Nat.reduceMul, Nat.reduceLT, Nat.reduceLeDiff, reduceCtorEq, Int.toNat_natCast]
        simp -implicitDefEqProofs only [go_sem, ↓reduceIte, Nat.reduceEqDiff, Nat.reduceAdd, Nat.reduceMul, Nat.reduceLT, Nat.reduceLeDiff, reduceCtorEq, Int.toNat_natCast, hb0, encX, encE, e2, e8, hge2, hk1]
        refine ⟨⟨by omega, by omega⟩, ?_⟩
        refine CallD.use (end_ok f1 _ _) body_28 ?_; rintro _ h_ ⟨rfl, e_⟩; rw [e_]; clear e_ h_; refine ⟨Sub.refl _, ?_⟩; simp -implicitDefEqProofs only [go_sem, ↓reduceIte, Nat.reduceEqDiff, Nat.reduceAdd, Nat.reduceMul, Nat.reduceLT, Nat.reduceLeDiff, reduceCtorEq, Int.toNat_natCast]
        refine hK _ _ _ ?_; clear hK K
        refine AWP.reg (by kernel_rfl) (fun E K hE hK => ?_); simp -implicitDefEqProofs only [go_sem, ↓reduceIte, Nat.reduceEqDiff, Nat.reduceAdd, Nat.reduceMul, Nat.reduceLT, Nat.reduceLeDiff, reduceCtorEq, Int.toNat_natCast, hb1, encE, e3]
        refine hK _ _ _ ?_; clear hE hK K E
        refine ⟨⟨rfl, by simp -implicitDefEqProofs only [go_sem, ↓reduceIte, Nat.reduceEqDiff, Nat.reduceAdd, Nat.reduceMul, Nat.reduceLT, Nat.reduceLeDiff, reduceCtorEq, Int.toNat_natCast, hb0], by simp -implicitDefEqProofs only [go_sem, ↓reduceIte, Nat.reduceEqDiff, Nat.reduceAdd, Nat.reduceMul, Nat.reduceLT, Nat.reduceLeDiff, reduceCtorEq, Int.toNat_natCast, hs1]; rfl, by simp -implicitDefEqProofs only [go_sem, ↓reduceIte, Nat.reduceEqDiff, Nat.reduceAdd, Nat.reduceMul, Nat.reduceLT, Nat.reduceLeDiff, reduceCtorEq, Int.toNat_natCast, hb2], lowEq_ne ho (Nat.le_succ _) _, by simp -implicitDefEqProofs only [go_sem, ↓reduceIte, Nat.reduceEqDiff, Nat.reduceAdd, Nat.reduceMul, Nat.reduceLT, Nat.reduceLeDiff, reduceCtorEq, Int.toNat_natCast, e2], by simp -implicitDefEqProofs only [go_sem, ↓reduceIte, Nat.reduceEqDiff, Nat.reduceAdd, Nat.reduceMul, Nat.reduceLT, Nat.reduceLeDiff, reduceCtorEq, Int.toNat_natCast, e3], by simp -implicitDefEqProofs only [go_sem, ↓reduceIte, Nat.reduceEqDiff, Nat.reduceAdd, Nat.reduceMul, Nat.reduceLT, Nat.reduceLeDiff, reduceCtorEq, Int.toNat_natCast, e4], by simp -implicitDefEqProofs only [go_sem, ↓reduceIte, Nat.reduceEqDiff, Nat.reduceAdd, Nat.reduceMul, Nat.reduceLT, Nat.reduceLeDiff, reduceCtorEq, Int.toNat_natCast, e5]⟩, by simp -implicitDefEqProofs only [go_sem, ↓reduceIte, Nat.reduceEqDiff, Nat.reduceAdd, Nat.reduceMul, Nat.reduceLT, Nat.reduceLeDiff, reduceCtorEq, Int.toNat_natCast, e7], by simp -implicitDefEqProofs only [go_sem, ↓reduceIte, Nat.reduceEqDiff, Nat.reduceAdd, Nat.reduceMul, Nat.reduceLT, Nat.reduceLeDiff, reduceCtorEq, Int.toNat_natCast, e8]⟩
      · have hgt' : ¬ (fromX x.free s : Int) < k := by omega
        refine AWP.ifF (by simp -implicitDefEqProofs only [go_sem, ↓reduceIte, Nat.reduceEqDiff, Nat.reduceAdd, Nat.reduceMul, Nat.reduceLT, Nat.reduceLeDiff, reduceCtorEq, Int.toNat_natCast, hgt']) ?_
        refine AWP.skip ?_
        have : s1 = s := by
          rw [hs1]; unfold joinX; rw [if_pos (List.eq_nil_of_length_eq_zero (by rw [hml]; omega))]
        subst this
        exact ⟨⟨rfl, hb0, hb1, hb2, ho, by simp -implicitDefEqProofs only [go_sem, ↓reduceIte, Nat.reduceEqDiff, Nat.reduceAdd, Nat.reduceMul, Nat.reduceLT, Nat.reduceLeDiff, reduceCtorEq, Int.toNat_natCast, e2], by simp -implicitDefEqProofs only [go_sem, ↓reduceIte, Nat.reduceEqDiff, Nat.reduceAdd, Nat.reduceMul, Nat.reduceLT, Nat.reduceLeDiff, reduceCtorEq, Int.toNat_natCast, e3], by simp -implicitDefEqProofs only [go_sem, ↓reduceIte, Nat.reduceEqDiff, Nat.reduceAdd, Nat.reduceMul, Nat.reduceLT, Nat.reduceLeDiff, reduceCtorEq, Int.toNat_natCast, e4], by simp -implicitDefEqProofs only [go_sem, ↓reduceIte, Nat.reduceEqDiff, Nat.reduceAdd, Nat.reduceMul, Nat.reduceLT, Nat.reduceLeDiff, reduceCtorEq, Int.toNat_natCast, e5]⟩, by simp -implicitDefEqProofs only [go_sem, ↓reduceIte, Nat.reduceEqDiff, Nat.reduceAdd, Nat.reduceMul, Nat.reduceLT, Nat.reduceLeDiff, reduceCtorEq, Int.toNat_natCast, e7], by simp -implicitDefEqProofs only [go_sem, ↓reduceIte, Nat.reduceEqDiff, Nat.reduceAdd, Nat.reduceMul, Nat.reduceLT, Nat.reduceLeDiff, reduceCtorEq, Int.toNat_natCast, e8]⟩
    clear hb0 hb1 hb2 ho e2 e3 e4 e5 e7 e8 t hh
    rintro ⟨t, hh, m⟩ ⟨⟨hm, hb0, hb1, hb2, ho, e2, e3, e4, e5⟩, e7, e8⟩
    simp only at hb0 hb1 hb2 ho e2 e3 e4 e5 e7 e8 hm
    subst hm
    refine AWP.known (fun hnew => ?_)
    have hnew3 : hh (b + 3) = none := hnew _ (Nat.le_refl _)
    refine AWP.seqRegDL [] [] [] 9 mixed (by kernel_rfl) (by kernel_rfl) (by kernel_rfl) (by kernel_rfl) (by kernel_rfl) (fun K hK => ?_); simp -implicitDefEqProofs only [go_sem, ↓reduceIte, Nat.reduceEqDiff, Nat.reduceAdd, Nat.reduceMul, Nat.reduceLT, Nat.reduceLeDiff, reduceCtorEq, Int.toNat_natCast, hb0, hb1, encX, encE, e2, e3, e7, e8]
    refine CallD.use (clone_ext_ok (x.free.map encE) (okEs_ext _) _ _ (by rw [List.length_map]; omega)) body_30 ?_
    rintro _ _ ⟨ver1, cap1, T1, g1, g2, g3, rfl, rfl⟩
    refine ⟨(Sub.refl hh).new hnew3, ?_⟩
    simp -implicitDefEqProofs only [go_sem, ↓reduceIte, Nat.reduceEqDiff, Nat.reduceAdd, Nat.reduceMul, Nat.reduceLT, Nat.reduceLeDiff, reduceCtorEq, Int.toNat_natCast, hb0, hb1, encX, encE, e2, e3, e7, e8]
    have hes : (x.free.map encE).length = x.free.length := by rw [List.length_map]
    refine CallD.use ((replace_ext_ok (x.free.map encE) [encE s1] (okEs_ext _) (okEs_ext [s1]) _ _ (b + 3) ver1 cap1 (fromX x.free s) k T1 (Nat.lt_succ_self _) (upd_same _ _ _) g3 g1 g2 hfk (by rw [hes]; exact hk) (by rw [hes]; omega) (by simp)).arg_eq (by rw [hes]; rfl)) body_29 ?_
    rintro _ _ ⟨ver', cap', T', k1, k2, k3, rfl, rfl⟩
    have hdr : (x.free.map encE).take (fromX x.free s) ++ ([encE s1] ++ (x.free.map encE).drop k) = (x.free.take (fromX x.free s) ++ (s1 :: x.free.drop k)).map encE := by
      rw [List.map_append, List.map_cons, List.map_take, List.map_drop]; rfl
    rw [hdr] at k1 k2 ⊢
    generalize hZ : x.free.take (fromX x.free s) ++ (s1 :: x.free.drop k) = zs at k1 k2 hTX ⊢
    rw [List.length_map] at k1 k2 ⊢
    rw [upd_upd]
    refine ⟨(Sub.refl hh).new hnew3, ?_⟩
    simp -implicitDefEqProofs only [go_sem, ↓reduceIte, Nat.reduceEqDiff, Nat.reduceAdd, Nat.reduceMul, Nat.reduceLT, Nat.reduceLeDiff, reduceCtorEq, Int.toNat_natCast, hb0, encX, e2]
    refine hK _ _ _ ?_; clear hK K
    refine AWP.seqReg (by kernel_rfl) (fun E K hE hK => ?_); simp -implicitDefEqProofs only [go_sem, ↓reduceIte, Nat.reduceEqDiff, Nat.reduceAdd, Nat.reduceMul, Nat.reduceLT, Nat.reduceLeDiff, reduceCtorEq, Int.toNat_natCast, e2, e4, hb2]
    refine hK _ _ _ ?_; clear hE hK K E
    refine AWP.ret ?_
    simp -implicitDefEqProofs only [go_sem, ↓reduceIte, Nat.reduceEqDiff, Nat.reduceAdd, Nat.reduceMul, Nat.reduceLT, Nat.reduceLeDiff, reduceCtorEq, Int.toNat_natCast]
    rw [hTX]
    refine Ends.row hn H (fun id hid => ?_) (id := b + 3) (Nat.le_add_right _ _) (blk := rowB ver' (zs.map encE) T') (by simp -implicitDefEqProofs only [go_sem, ↓reduceIte, Nat.reduceEqDiff, Nat.reduceAdd, Nat.reduceMul, Nat.reduceLT, Nat.reduceLeDiff, reduceCtorEq, Int.toNat_natCast]) (lowCs_app (lowCs_p _ _) (lowCs_mono (Nat.zero_le _) k3)) (r0 := .tup [.agg [.p (.v (.int .i64 x.size)), .win (b + 3) ver' 0 zs.length cap'], IntV 0])
      (by rw [show Try.f11.results.toList = [.cell 4 26, .tmp 5] from rfl]; simp -implicitDefEqProofs only [go_sem, ↓reduceIte, Nat.reduceEqDiff, Nat.reduceAdd, Nat.reduceMul, Nat.reduceLT, Nat.reduceLeDiff, reduceCtorEq, Int.toNat_natCast, e4])
      (renV_tup2 (renV_agg2 (renC_p _) renC_win0) (renV.v _)) (.inl ⟨rfl, ver', cap', T', k1, k2, k3, rfl, rfl⟩)
    have hid' : id < b := hid
    simp -implicitDefEqProofs only [go_sem, ↓reduceIte, Nat.reduceEqDiff, Nat.reduceAdd, Nat.reduceMul, Nat.reduceLT, Nat.reduceLeDiff, reduceCtorEq, Int.toNat_natCast, show ¬ id = b by omega, show ¬ id = b + 1 by omega, show ¬ id = b + 2 by omega, show ¬ id = b + 3 by omega, ho id hid']
  refine AWP.block ?_
  refine AWP.loopUp 3 x.free.length (giveJ x s h b) (fromX x.free s) hfl rfl ⟨⟨rfl, hb0, hb1, hb2, ho, by simp -implicitDefEqProofs only [go_sem, ↓reduceIte, Nat.reduceEqDiff, Nat.reduceAdd, Nat.reduceMul, Nat.reduceLT, Nat.reduceLeDiff, reduceCtorEq, Int.toNat_natCast, e2], by simp -implicitDefEqProofs only [go_sem, ↓reduceIte, Nat.reduceEqDiff, Nat.reduceAdd, Nat.reduceMul, Nat.reduceLT, Nat.reduceLeDiff, reduceCtorEq, Int.toNat_natCast, e3], by simp -implicitDefEqProofs only [go_sem, ↓reduceIte, Nat.reduceEqDiff, Nat.reduceAdd, Nat.reduceMul, Nat.reduceLT, Nat.reduceLeDiff, reduceCtorEq, Int.toNat_natCast, e4], by simp -implicitDefEqProofs only [go_sem, ↓reduceIte, Nat.reduceEqDiff, Nat.reduceAdd, Nat.reduceMul, Nat.reduceLT, Nat.reduceLeDiff, reduceCtorEq, Int.toNat_natCast, e5]⟩, by simp -implicitDefEqProofs only [go_sem, ↓reduceIte, Nat.reduceEqDiff, Nat.reduceAdd, Nat.reduceMul, Nat.reduceLT, Nat.reduceLeDiff, reduceCtorEq, Int.toNat_natCast, e7], by simp -implicitDefEqProofs only [go_sem, ↓reduceIte, Nat.reduceEqDiff, Nat.reduceAdd, Nat.reduceMul, Nat.reduceLT, Nat.reduceLeDiff, reduceCtorEq, Int.toNat_natCast], Nat.le_refl _, by simp [midX], by simp⟩ ?_
  clear e2 e3 e4 e5 e7 hb0 hb1 hb2 ho t hh
  rintro k ⟨t, hh, m⟩ hk ⟨⟨hm, hb0, hb1, hb2, ho, e2, e3, e4, e5⟩, e7, e8, hfk, hmid, hany⟩ hm'
  clear hm'
  simp only at hb0 hb1 hb2 ho e2 e3 e4 e5 e7 e8 hm
  subst hm
  by_cases hlt : k < x.free.length
  · have hge : (x.free.map encE).getD k [] = [.v (.int .i64 x.free[k].at_), .v (.int .i64 x.free[k].len)] := getD_map_encE x.free k hlt
    have hlti : (k : Int) < x.free.length := by omega
    refine AWP.seq ?_
    refine AWP.seqRegDG [] [] [] mixed (by kernel_rfl) (by kernel_rfl) (fun K hK => ?_); simp -implicitDefEqProofs only [go_sem, ↓reduceIte, Nat.reduceEqDiff, Nat.reduceAdd, Nat.reduceMul, Nat.reduceLT, Nat.reduceLeDiff, reduceCtorEq, Int.toNat_natCast, hb0, hb1, encX, e2, e3, e8, hlti, decide_true]
    refine evD_guardT 34 rfl ?_; simp -implicitDefEqProofs only [go_sem, ↓reduceIte, Nat.reduceEqDiff, Nat.reduceAdd, Nat.reduceMul, Nat.reduceLT, Nat.reduceLeDiff, reduceCtorEq, Int.toNat_natCast, hb0, hb1, encX, e2, e3, e8, hge]
    refine evD_guardT 34 rfl ?_; simp -implicitDefEqProofs only [go_sem, ↓reduceIte, Nat.reduceEqDiff, Nat.reduceAdd, Nat.reduceMul, Nat.reduceLT, Nat.reduceLeDiff, reduceCtorEq, Int.toNat_natCast, hb0, hb1, encX, e2, e3, e8, hge]
    refine evD_guardT 34 rfl ?_; simp -implicitDefEqProofs only [go_sem, ↓reduceIte, Nat.reduceEqDiff, Nat.reduceAdd, Nat.reduceMul, Nat.reduceLT, Nat.reduceLeDiff, reduceCtorEq, Int.toNat_natCast, hb0, hb1, encX, e2, e3, e8, hge]
    refine evD_guardT 34 rfl ?_; simp -implicitDefEqProofs only [go_sem, ↓reduceIte, Nat.reduceEqDiff, Nat.reduceAdd, Nat.reduceMul, Nat.reduceLT, Nat.reduceLeDiff, reduceCtorEq, Int.toNat_natCast, hb0, hb1, encX, e2, e3, e8, hge]
    refine ⟨⟨by omega, by omega⟩, ?_⟩
    refine evD_guardT 34 rfl ?_; simp -implicitDefEqProofs only [go_sem, ↓reduceIte, Nat.reduceEqDiff, Nat.reduceAdd, Nat.reduceMul, Nat.reduceLT, Nat.reduceLeDiff, reduceCtorEq, Int.toNat_natCast, hb0, hb1, encX, e2, e3, e8, hge]
    refine evD_guardT 34 rfl ?_; simp -implicitDefEqProofs only [go_sem, ↓reduceIte, Nat.reduceEqDiff, Nat.reduceAdd, Nat.reduceMul, Nat.reduceLT, Nat.reduceLeDiff, reduceCtorEq, Int.toNat_natCast, hb0, hb1, encX, e2, e3, e8, hge]
    refine evD_guardT 34 rfl ?_; simp -implicitDefEqProofs only [go_sem, ↓reduceIte, Nat.reduceEqDiff, Nat.reduceAdd, Nat.reduceMul, Nat.reduceLT, Nat.reduceLeDiff, reduceCtorEq, Int.toNat_natCast, hb0, hb1, encE, e2, e3, e8, hge]
    refine evD_guardT 34 rfl ?_; simp -implicitDefEqProofs only [go_sem, ↓reduceIte, Nat.reduceEqDiff, Nat.reduceAdd, Nat.reduceMul, Nat.reduceLT, Nat.reduceLeDiff, reduceCtorEq, Int.toNat_natCast, hb0, hb1, encE, e2, e3, e8, hge]
    refine CallD.use (end_ok s _ _) body_28 ?_; rintro _ h_ ⟨rfl, e_⟩; rw [e_]; clear e_ h_; refine ⟨Sub.refl _, ?_⟩; simp -implicitDefEqProofs only [go_sem, ↓reduceIte, Nat.reduceEqDiff, Nat.reduceAdd, Nat.reduceMul, Nat.reduceLT, Nat.reduceLeDiff, reduceCtorEq, Int.toNat_natCast]
    refine evD_guardT 34 rfl ?_; simp -implicitDefEqProofs only [go_sem, ↓reduceIte, Nat.reduceEqDiff, Nat.reduceAdd, Nat.reduceMul, Nat.reduceLT, Nat.reduceLeDiff, reduceCtorEq, Int.toNat_natCast]
    refine hK _ _ _ ?_; clear hK K
    by_cases hle : x.free[k].at_ ≤ endW s
    case neg =>
      refine AWP.ifF (by simp -implicitDefEqProofs only [go_sem, ↓reduceIte, Nat.reduceEqDiff, Nat.reduceAdd, Nat.reduceMul, Nat.reduceLT, Nat.reduceLeDiff, reduceCtorEq, Int.toNat_natCast, hle]) ?_
      refine AWP.exit ?_
      simp -implicitDefEqProofs only [go_sem, ↓reduceIte, Nat.reduceEqDiff, Nat.reduceAdd, Nat.reduceMul, Nat.reduceLT, Nat.reduceLeDiff, reduceCtorEq, Int.toNat_natCast]
      have htw : (x.free.drop k).takeWhile (fun f => decide (f.at_ ≤ endW s)) = [] := by
        rw [List.drop_eq_getElem_cons hlt, List.takeWhile_cons, if_neg (by simpa using hle)]
      rw [htw, List.append_nil] at hmid
      exact ⟨k, hk, ⟨rfl, hb0, hb1, hb2, ho, by simp -implicitDefEqProofs only [go_sem, ↓reduceIte, Nat.reduceEqDiff, Nat.reduceAdd, Nat.reduceMul, Nat.reduceLT, Nat.reduceLeDiff, reduceCtorEq, Int.toNat_natCast, e2], by simp -implicitDefEqProofs only [go_sem, ↓reduceIte, Nat.reduceEqDiff, Nat.reduceAdd, Nat.reduceMul, Nat.reduceLT, Nat.reduceLeDiff, reduceCtorEq, Int.toNat_natCast, e3], by simp -implicitDefEqProofs only [go_sem, ↓reduceIte, Nat.reduceEqDiff, Nat.reduceAdd, Nat.reduceMul, Nat.reduceLT, Nat.reduceLeDiff, reduceCtorEq, Int.toNat_natCast, e4], by simp -implicitDefEqProofs only [go_sem, ↓reduceIte, Nat.reduceEqDiff, Nat.reduceAdd, Nat.reduceMul, Nat.reduceLT, Nat.reduceLeDiff, reduceCtorEq, Int.toNat_natCast, e5]⟩, by simp -implicitDefEqProofs only [go_sem, ↓reduceIte, Nat.reduceEqDiff, Nat.reduceAdd, Nat.reduceMul, Nat.reduceLT, Nat.reduceLeDiff, reduceCtorEq, Int.toNat_natCast, e7], by simp -implicitDefEqProofs only [go_sem, ↓reduceIte, Nat.reduceEqDiff, Nat.reduceAdd, Nat.reduceMul, Nat.reduceLT, Nat.reduceLeDiff, reduceCtorEq, Int.toNat_natCast, e8], hfk, hmid, by rw [hmid]; exact hany⟩
    refine AWP.ifT (by simp -implicitDefEqProofs only [go_sem, ↓reduceIte, Nat.reduceEqDiff, Nat.reduceAdd, Nat.reduceMul, Nat.reduceLT, Nat.reduceLeDiff, reduceCtorEq, Int.toNat_natCast, hle]) ?_
    refine AWP.skip ?_
    simp -implicitDefEqProofs only [go_sem, ↓reduceIte, Nat.reduceEqDiff, Nat.reduceAdd, Nat.reduceMul, Nat.reduceLT, Nat.reduceLeDiff, reduceCtorEq, Int.toNat_natCast]
    have hstep : (x.free.drop k).takeWhile (fun f => decide (f.at_ ≤ endW s)) = x.free[k] :: (x.free.drop (k + 1)).takeWhile (fun f => decide (f.at_ ≤ endW s)) := by
      rw [List.drop_eq_getElem_cons hlt, List.takeWhile_cons, if_pos (by simpa using hle)]
    have htk : (x.free.drop (fromX x.free s)).take (k + 1 - fromX x.free s) = (x.free.drop (fromX x.free s)).take (k - fromX x.free s) ++ [x.free[k]] := by
      rw [show k + 1 - fromX x.free s = (k - fromX x.free s) + 1 by omega, List.take_add_one, List.getElem?_drop, show fromX x.free s + (k - fromX x.free s) = k by omega, List.getElem?_eq_getElem hlt]
      rfl
    generalize hfk' : x.free[k] = f at hge hle hstep htk
    refine AWP.seq ?_
    refine AWP.block ?_
    refine AWP.seqReg (by kernel_rfl) (fun E K hE hK => ?_); simp -implicitDefEqProofs only [go_sem, ↓reduceIte, Nat.reduceEqDiff, Nat.reduceAdd, Nat.reduceMul, Nat.reduceLT, Nat.reduceLeDiff, reduceCtorEq, Int.toNat_natCast, hb0, encX, e2, e8, hge]
    refine ⟨⟨by omega, by omega⟩, ?_⟩
    refine hK _ _ _ ?_; clear hE hK K E
    by_cases h1 : f.at_ < endW s
    case pos =>
      refine AWP.seqRegDG [] [] [] mixed (by kernel_rfl) (by kernel_rfl) (fun K hK => ?_); simp -implicitDefEqProofs only [go_sem, ↓reduceIte, Nat.reduceEqDiff, Nat.reduceAdd, Nat.reduceMul, Nat.reduceLT, Nat.reduceLeDiff, reduceCtorEq, Int.toNat_natCast, hb0, hb1, encE, e2, e3, e8, h1, decide_true]
      refine CallD.use (end_ok s _ _) body_28 ?_; rintro _ h_ ⟨rfl, e_⟩; rw [e_]; clear e_ h_; refine ⟨Sub.refl _, ?_⟩; simp -implicitDefEqProofs only [go_sem, ↓reduceIte, Nat.reduceEqDiff, Nat.reduceAdd, Nat.reduceMul, Nat.reduceLT, Nat.reduceLeDiff, reduceCtorEq, Int.toNat_natCast]
      simp -implicitDefEqProofs only [go_sem, ↓reduceIte, Nat.reduceEqDiff, Nat.reduceAdd, Nat.reduceMul, Nat.reduceLT, Nat.reduceLeDiff, reduceCtorEq, Int.toNat_natCast, h1, decide_true]
      refine evD_guardT 57 rfl ?_; simp -implicitDefEqProofs only [go_sem, ↓reduceIte, Nat.reduceEqDiff, Nat.reduceAdd, Nat.reduceMul, Nat.reduceLT, Nat.reduceLeDiff, reduceCtorEq, Int.toNat_natCast, hb0, hb1, e3]
      refine evD_guardT 57 rfl ?_; simp -implicitDefEqProofs only [go_sem, ↓reduceIte, Nat.reduceEqDiff, Nat.reduceAdd, Nat.reduceMul, Nat.reduceLT, Nat.reduceLeDiff, reduceCtorEq, Int.toNat_natCast, hb0, hb1, encE, e3]
      refine evD_guardT 57 rfl ?_; simp -implicitDefEqProofs only [go_sem, ↓reduceIte, Nat.reduceEqDiff, Nat.reduceAdd, Nat.reduceMul, Nat.reduceLT, Nat.reduceLeDiff, reduceCtorEq, Int.toNat_natCast, hb0, hb1, encE, e3]
      refine evD_guardT 57 rfl ?_; simp -implicitDefEqProofs only [go_sem, ↓reduceIte, Nat.reduceEqDiff, Nat.reduceAdd, Nat.reduceMul, Nat.reduceLT, Nat.reduceLeDiff, reduceCtorEq, Int.toNat_natCast, hb0, hb1, encE, e3]
      refine CallD.use (end_ok f _ _) body_28 ?_; rintro _ h_ ⟨rfl, e_⟩; rw [e_]; clear e_ h_; refine ⟨Sub.refl _, ?_⟩; simp -implicitDefEqProofs only [go_sem, ↓reduceIte, Nat.reduceEqDiff, Nat.reduceAdd, Nat.reduceMul, Nat.reduceLT, Nat.reduceLeDiff, reduceCtorEq, Int.toNat_natCast]
      refine evD_guardT 57 rfl ?_; simp -implicitDefEqProofs only [go_sem, ↓reduceIte, Nat.reduceEqDiff, Nat.reduceAdd, Nat.reduceMul, Nat.reduceLT, Nat.reduceLeDiff, reduceCtorEq, Int.toNat_natCast]
      refine hK _ _ _ ?_; clear hK K
      by_cases h2 : s.at_ < endW f
      · have hT : giveX x s = (⟨0, []⟩, 5) := by
          unfold giveX
          rw [if_neg (by rw [hb]; simp), if_pos ?_]
          rw [hmid, hstep, List.any_append, List.any_cons]
          simp [hitX, h1, h2]
        refine AWP.ifT (by simp -implicitDefEqProofs only [go_sem, ↓reduceIte, Nat.reduceEqDiff, Nat.reduceAdd, Nat.reduceMul, Nat.reduceLT, Nat.reduceLeDiff, reduceCtorEq, Int.toNat_natCast, h2]) ?_
        refine AWP.seqReg (by kernel_rfl) (fun E K hE hK => ?_); simp -implicitDefEqProofs only [go_sem, ↓reduceIte, Nat.reduceEqDiff, Nat.reduceAdd, Nat.reduceMul, Nat.reduceLT, Nat.reduceLeDiff, reduceCtorEq, Int.toNat_natCast, e4, hb2]; refine hK _ _ _ ?_; clear hE hK K E
        refine AWP.ret ?_
        simp -implicitDefEqProofs only [go_sem, ↓reduceIte, Nat.reduceEqDiff, Nat.reduceAdd, Nat.reduceMul, Nat.reduceLT, Nat.reduceLeDiff, reduceCtorEq, Int.toNat_natCast]
        exact bad _ _ _ 5 hT (by decide) (by simp -implicitDefEqProofs only [go_sem, ↓reduceIte, Nat.reduceEqDiff, Nat.reduceAdd, Nat.reduceMul, Nat.reduceLT, Nat.reduceLeDiff, reduceCtorEq, Int.toNat_natCast, e4]) (by simp -implicitDefEqProofs only [go_sem, ↓reduceIte, Nat.reduceEqDiff, Nat.reduceAdd, Nat.reduceMul, Nat.reduceLT, Nat.reduceLeDiff, reduceCtorEq, Int.toNat_natCast]) (by simp -implicitDefEqProofs only [go_sem, ↓reduceIte, Nat.reduceEqDiff, Nat.reduceAdd, Nat.reduceMul, Nat.reduceLT, Nat.reduceLeDiff, reduceCtorEq, Int.toNat_natCast]) (lowEq_ne (lowEq_ne ho (by omega) _) (by omega) _)
      · refine AWP.ifF (by simp -implicitDefEqProofs only [go_sem, ↓reduceIte, Nat.reduceEqDiff, Nat.reduceAdd, Nat.reduceMul, Nat.reduceLT, Nat.reduceLeDiff, reduceCtorEq, Int.toNat_natCast, h2]) ?_; refine AWP.skip ?_; simp -implicitDefEqProofs only [go_sem, ↓reduceIte, Nat.reduceEqDiff, Nat.reduceAdd, Nat.reduceMul, Nat.reduceLT, Nat.reduceLeDiff, reduceCtorEq, Int.toNat_natCast]
        refine AWP.reg (by kernel_rfl) (fun E K hE hK => ?_); simp -implicitDefEqProofs only [go_sem, ↓reduceIte, Nat.reduceEqDiff, Nat.reduceAdd, Nat.reduceMul, Nat.reduceLT, Nat.reduceLeDiff, reduceCtorEq, Int.toNat_natCast, e8]
        refine hK _ _ _ ?_; clear hE hK K E
        refine ⟨(by decide : 3 ≤ 4), hlt, ⟨⟨rfl, cutH_same (Nat.lt_add_of_pos_right (by decide)) (by simp -implicitDefEqProofs only [go_sem, ↓reduceIte, Nat.reduceEqDiff, Nat.reduceAdd, Nat.reduceMul, Nat.reduceLT, Nat.reduceLeDiff, reduceCtorEq, Int.toNat_natCast, hb0]) rfl, cutH_same (Nat.add_lt_add_left (by decide) _) (by simp -implicitDefEqProofs only [go_sem, ↓reduceIte, Nat.reduceEqDiff, Nat.reduceAdd, Nat.reduceMul, Nat.reduceLT, Nat.reduceLeDiff, reduceCtorEq, Int.toNat_natCast, hb1]) rfl, cutH_same (Nat.add_lt_add_left (by decide) _) (by simp -implicitDefEqProofs only [go_sem, ↓reduceIte, Nat.reduceEqDiff, Nat.reduceAdd, Nat.reduceMul, Nat.reduceLT, Nat.reduceLeDiff, reduceCtorEq, Int.toNat_natCast, hb2]) rfl, cutH_outer (Nat.le_add_right _ _) (lowEq_ne ho (Nat.le_add_right _ _) _) hlow,
          by simp -implicitDefEqProofs only [go_sem, ↓reduceIte, Nat.reduceEqDiff, Nat.reduceAdd, Nat.reduceMul, Nat.reduceLT, Nat.reduceLeDiff, reduceCtorEq, Int.toNat_natCast, e2]; exact cutV_ptr (Nat.lt_add_of_pos_right (by decide)), by simp -implicitDefEqProofs only [go_sem, ↓reduceIte, Nat.reduceEqDiff, Nat.reduceAdd, Nat.reduceMul, Nat.reduceLT, Nat.reduceLeDiff, reduceCtorEq, Int.toNat_natCast, e3]; exact cutV_ptr (Nat.add_lt_add_left (by decide) _), by simp -implicitDefEqProofs only [go_sem, ↓reduceIte, Nat.reduceEqDiff, Nat.reduceAdd, Nat.reduceMul, Nat.reduceLT, Nat.reduceLeDiff, reduceCtorEq, Int.toNat_natCast, e4]; exact cutV_ptr (Nat.add_lt_add_left (by decide) _), by simp -implicitDefEqProofs only [go_sem, ↓reduceIte, Nat.reduceEqDiff, Nat.reduceAdd, Nat.reduceMul, Nat.reduceLT, Nat.reduceLeDiff, reduceCtorEq, Int.toNat_natCast, e5]⟩, by simp -implicitDefEqProofs only [go_sem, ↓reduceIte, Nat.reduceEqDiff, Nat.reduceAdd, Nat.reduceMul, Nat.reduceLT, Nat.reduceLeDiff, reduceCtorEq, Int.toNat_natCast, e7], ?_, by omega, ?_, ?_⟩⟩
        · simp -implicitDefEqProofs only [go_sem, ↓reduceIte, Nat.reduceEqDiff, Nat.reduceAdd, Nat.reduceMul, Nat.reduceLT, Nat.reduceLeDiff, reduceCtorEq, Int.toNat_natCast]; rw [wrap_i64 (by omega) (by omega)]; rfl
        · rw [htk, hmid, hstep, List.append_assoc]; rfl
        · rw [htk, List.any_append, hany]; simp [hitX, h2]
    case neg =>
      refine AWP.seqRegDG [] [] [] mixed (by kernel_rfl) (by kernel_rfl) (fun K hK => ?_); simp -implicitDefEqProofs only [go_sem, ↓reduceIte, Nat.reduceEqDiff, Nat.reduceAdd, Nat.reduceMul, Nat.reduceLT, Nat.reduceLeDiff, reduceCtorEq, Int.toNat_natCast, hb0, hb1, encE, e2, e3, e8, h1, decide_false]
      refine CallD.use (end_ok s _ _) body_28 ?_; rintro _ h_ ⟨rfl, e_⟩; rw [e_]; clear e_ h_; refine ⟨Sub.refl _, ?_⟩; simp -implicitDefEqProofs only [go_sem, ↓reduceIte, Nat.reduceEqDiff, Nat.reduceAdd, Nat.reduceMul, Nat.reduceLT, Nat.reduceLeDiff, reduceCtorEq, Int.toNat_natCast]
      simp -implicitDefEqProofs only [go_sem, ↓reduceIte, Nat.reduceEqDiff, Nat.reduceAdd, Nat.reduceMul, Nat.reduceLT, Nat.reduceLeDiff, reduceCtorEq, Int.toNat_natCast, h1, decide_false]
      refine evD_guardT 57 rfl ?_; simp -implicitDefEqProofs only [go_sem, ↓reduceIte, Nat.reduceEqDiff, Nat.reduceAdd, Nat.reduceMul, Nat.reduceLT, Nat.reduceLeDiff, reduceCtorEq, Int.toNat_natCast]
      refine evD_guardT 57 rfl ?_; simp -implicitDefEqProofs only [go_sem, ↓reduceIte, Nat.reduceEqDiff, Nat.reduceAdd, Nat.reduceMul, Nat.reduceLT, Nat.reduceLeDiff, reduceCtorEq, Int.toNat_natCast]
      refine evD_guardT 57 rfl ?_; simp -implicitDefEqProofs only [go_sem, ↓reduceIte, Nat.reduceEqDiff, Nat.reduceAdd, Nat.reduceMul, Nat.reduceLT, Nat.reduceLeDiff, reduceCtorEq, Int.toNat_natCast]
      refine evD_guardT 57 rfl ?_; simp -implicitDefEqProofs only [go_sem, ↓reduceIte, Nat.reduceEqDiff, Nat.reduceAdd, Nat.reduceMul, Nat.reduceLT, Nat.reduceLeDiff, reduceCtorEq, Int.toNat_natCast]
      refine evD_guardT 57 rfl ?_; simp -implicitDefEqProofs only [go_sem, ↓reduceIte, Nat.reduceEqDiff, Nat.reduceAdd, Nat.reduceMul, Nat.reduceLT, Nat.reduceLeDiff, reduceCtorEq, Int.toNat_natCast]
      refine hK _ _ _ ?_; clear hK K
      refine AWP.ifF (by simp -implicitDefEqProofs only [go_sem, ↓reduceIte, Nat.reduceEqDiff, Nat.reduceAdd, Nat.reduceMul, Nat.reduceLT, Nat.reduceLeDiff, reduceCtorEq, Int.toNat_natCast]) ?_; refine AWP.skip ?_; simp -implicitDefEqProofs only [go_sem, ↓reduceIte, Nat.reduceEqDiff, Nat.reduceAdd, Nat.reduceMul, Nat.reduceLT, Nat.reduceLeDiff, reduceCtorEq, Int.toNat_natCast]
      refine AWP.reg (by kernel_rfl) (fun E K hE hK => ?_); simp -implicitDefEqProofs only [go_sem, ↓reduceIte, Nat.reduceEqDiff, Nat.reduceAdd, Nat.reduceMul, Nat.reduceLT, Nat.reduceLeDiff, reduceCtorEq, Int.toNat_natCast, e8]
      refine hK _ _ _ ?_; clear hE hK K E
      refine ⟨(by decide : 3 ≤ 4), hlt, ⟨⟨rfl, cutH_same (Nat.lt_add_of_pos_right (by decide)) (by simp -implicitDefEqProofs only [go_sem, ↓reduceIte, Nat.reduceEqDiff, Nat.reduceAdd, Nat.reduceMul, Nat.reduceLT, Nat.reduceLeDiff, reduceCtorEq, Int.toNat_natCast, hb0]) rfl, cutH_same (Nat.add_lt_add_left (by decide) _) (by simp -implicitDefEqProofs only [go_sem, ↓reduceIte, Nat.reduceEqDiff, Nat.reduceAdd, Nat.reduceMul, Nat.reduceLT, Nat.reduceLeDiff, reduceCtorEq, Int.toNat_natCast, hb1]) rfl, cutH_same (Nat.add_lt_add_left (by decide) _) (by simp -implicitDefEqProofs only [go_sem, ↓reduceIte, Nat.reduceEqDiff, Nat.reduceAdd, Nat.reduceMul, Nat.reduceLT, Nat.reduceLeDiff, reduceCtorEq, Int.toNat_natCast, hb2]) rfl, cutH_outer (Nat.le_add_right _ _) (lowEq_ne ho (Nat.le_add_right _ _) _) hlow,
        by simp -implicitDefEqProofs only [go_sem, ↓reduceIte, Nat.reduceEqDiff, Nat.reduceAdd, Nat.reduceMul, Nat.reduceLT, Nat.reduceLeDiff, reduceCtorEq, Int.toNat_natCast, e2]; exact cutV_ptr (Nat.lt_add_of_pos_right (by decide)), by simp -implicitDefEqProofs only [go_sem, ↓reduceIte, Nat.reduceEqDiff, Nat.reduceAdd, Nat.reduceMul, Nat.reduceLT, Nat.reduceLeDiff, reduceCtorEq, Int.toNat_natCast, e3]; exact cutV_ptr (Nat.add_lt_add_left (by decide) _), by simp -implicitDefEqProofs only [go_sem, ↓reduceIte, Nat.reduceEqDiff, Nat.reduceAdd, Nat.reduceMul, Nat.reduceLT, Nat.reduceLeDiff, reduceCtorEq, Int.toNat_natCast, e4]; exact cutV_ptr (Nat.add_lt_add_left (by decide) _), by simp -implicitDefEqProofs only [go_sem, ↓reduceIte, Nat.reduceEqDiff, Nat.reduceAdd, Nat.reduceMul, Nat.reduceLT, Nat.reduceLeDiff, reduceCtorEq, Int.toNat_natCast, e5]⟩, by simp -implicitDefEqProofs only [go_sem, ↓reduceIte, Nat.reduceEqDiff, Nat.reduceAdd, Nat.reduceMul, Nat.reduceLT, Nat.reduceLeDiff, reduceCtorEq, Int.toNat_natCast, e7], ?_, by omega, ?_, ?_⟩⟩
      · simp -implicitDefEqProofs only [go_sem, ↓reduceIte, Nat.reduceEqDiff, Nat.reduceAdd, Nat.reduceMul, Nat.reduceLT, Nat.reduceLeDiff, reduceCtorEq, Int.toNat_natCast]; rw [wrap_i64 (by omega) (by omega)]; rfl
      · rw [htk, hmid, hstep, List.append_assoc]; rfl
      · rw [htk, List.any_append, hany]; simp [hitX, h1]
  · refine AWP.seq ?_
    have hlti : ¬ (k : Int) < x.free.length := by omega
    refine AWP.seqRegDG [] [] [] mixed (by kernel_rfl) (by kernel_rfl) (fun K hK => ?_); simp -implicitDefEqProofs only [go_sem, ↓reduceIte, Nat.reduceEqDiff, Nat.reduceAdd, Nat.reduceMul, Nat.reduceLT, Nat.reduceLeDiff, reduceCtorEq, Int.toNat_natCast, hb0, hb1, encX, e2, e3, e8, hlti, decide_false]
    refine evD_guardT 34 rfl ?_; simp -implicitDefEqProofs only [go_sem, ↓reduceIte, Nat.reduceEqDiff, Nat.reduceAdd, Nat.reduceMul, Nat.reduceLT, Nat.reduceLeDiff, reduceCtorEq, Int.toNat_natCast]
    refine evD_guardT 34 rfl ?_; simp -implicitDefEqProofs only [go_sem, ↓reduceIte, Nat.reduceEqDiff, Nat.reduceAdd, Nat.reduceMul, Nat.reduceLT, Nat.reduceLeDiff, reduceCtorEq, Int.toNat_natCast]
    refine evD_guardT 34 rfl ?_; simp -implicitDefEqProofs only [go_sem, ↓reduceIte, Nat.reduceEqDiff, Nat.reduceAdd, Nat.reduceMul, Nat.reduceLT, Nat.reduceLeDiff, reduceCtorEq, Int.toNat_natCast]
    refine evD_guardT 34 rfl ?_; simp -implicitDefEqProofs only [go_sem, ↓reduceIte, Nat.reduceEqDiff, Nat.reduceAdd, Nat.reduceMul, Nat.reduceLT, Nat.reduceLeDiff, reduceCtorEq, Int.toNat_natCast]
    refine evD_guardT 34 rfl ?_; simp -implicitDefEqProofs only [go_sem, ↓reduceIte, Nat.reduceEqDiff, Nat.reduceAdd, Nat.reduceMul, Nat.reduceLT, Nat.reduceLeDiff, reduceCtorEq, Int.toNat_natCast]
    refine evD_guardT 34 rfl ?_; simp -implicitDefEqProofs only [go_sem, ↓reduceIte, Nat.reduceEqDiff, Nat.reduceAdd, Nat.reduceMul, Nat.reduceLT, Nat.reduceLeDiff, reduceCtorEq, Int.toNat_natCast]
    refine evD_guardT 34 rfl ?_; simp -implicitDefEqProofs only [go_sem, ↓reduceIte, Nat.reduceEqDiff, Nat.reduceAdd, Nat.reduceMul, Nat.reduceLT, Nat.reduceLeDiff, reduceCtorEq, Int.toNat_natCast]
    refine evD_guardT 34 rfl ?_; simp -implicitDefEqProofs only [go_sem, ↓reduceIte, Nat.reduceEqDiff, Nat.reduceAdd, Nat.reduceMul, Nat.reduceLT, Nat.reduceLeDiff, reduceCtorEq, Int.toNat_natCast]
    refine evD_guardT 34 rfl ?_; simp -implicitDefEqProofs only [go_sem, ↓reduceIte, Nat.reduceEqDiff, Nat.reduceAdd, Nat.reduceMul, Nat.reduceLT, Nat.reduceLeDiff, reduceCtorEq, Int.toNat_natCast]
    refine hK _ _ _ ?_; clear hK K
    refine AWP.ifF (by simp -implicitDefEqProofs only [go_sem, ↓reduceIte, Nat.reduceEqDiff, Nat.reduceAdd, Nat.reduceMul, Nat.reduceLT, Nat.reduceLeDiff, reduceCtorEq, Int.toNat_natCast]) ?_
    refine AWP.exit ?_
    simp -implicitDefEqProofs only [go_sem, ↓reduceIte, Nat.reduceEqDiff, Nat.reduceAdd, Nat.reduceMul, Nat.reduceLT, Nat.reduceLeDiff, reduceCtorEq, Int.toNat_natCast]
    have hkl : k = x.free.length := by omega
    have htw : (x.free.drop k).takeWhile (fun f => decide (f.at_ ≤ endW s)) = [] := by rw [hkl]; simp
    rw [htw, List.append_nil] at hmid
    exact ⟨k, hk, ⟨rfl, hb0, hb1, hb2, ho, by simp -implicitDefEqProofs only [go_sem, ↓reduceIte, Nat.reduceEqDiff, Nat.reduceAdd, Nat.reduceMul, Nat.reduceLT, Nat.reduceLeDiff, reduceCtorEq, Int.toNat_natCast, e2], by simp -implicitDefEqProofs only [go_sem, ↓reduceIte, Nat.reduceEqDiff, Nat.reduceAdd, Nat.reduceMul, Nat.reduceLT, Nat.reduceLeDiff, reduceCtorEq, Int.toNat_natCast, e3], by simp -implicitDefEqProofs only [go_sem, ↓reduceIte, Nat.reduceEqDiff, Nat.reduceAdd, Nat.reduceMul, Nat.reduceLT, Nat.reduceLeDiff, reduceCtorEq, Int.toNat_natCast, e4], by simp -implicitDefEqProofs only [go_sem, ↓reduceIte, Nat.reduceEqDiff, Nat.reduceAdd, Nat.reduceMul, Nat.reduceLT, Nat.reduceLeDiff, reduceCtorEq, Int.toNat_natCast, e5]⟩, by simp -implicitDefEqProofs only [go_sem, ↓reduceIte, Nat.reduceEqDiff, Nat.reduceAdd, Nat.reduceMul, Nat.reduceLT, Nat.reduceLeDiff, reduceCtorEq, Int.toNat_natCast, e7], by simp -implicitDefEqProofs only [go_sem, ↓reduceIte, Nat.reduceEqDiff, Nat.reduceAdd, Nat.reduceMul, Nat.reduceLT, Nat.reduceLeDiff, reduceCtorEq, Int.toNat_natCast, e8], hfk, hmid, by rw [hmid]; exact hany⟩

theorem giveZ_ok (x : Exts) (s : Ext) (h : Heap) (b : Nat) (hl : x.free.length ≤ 1000000) :
    ACalls Try.prog 11 [ExtsV x, ExtV s] h b 0 (fun r h' => r = .tup [ExtsV (giveX x s).1, IntV (giveX x s).2] ∧ h' = h) :=
  (give_ok x s h b hl).freezeX (giveX_err x s) (fun _ _ _ h => frz_tup2 h (.v _))

end Go.Proofs.Ytdannmfdenlikaa
