/-
  Walks of the reference for extents: Is, Check; Extents, plainly: as bits, and of bits; Walks of the reference for extents: Bits.
-/
import Derived.Test.YtdannmfdenlikaaExtL3
import Derived.Test.YtdannmfdenlikaaExtPure3
namespace Go.Proofs.Ytdannmfdenlikaa
set_option linter.unusedSimpArgs false
set_option linter.unusedVariables false
set_option linter.unnecessarySimpa false
open Go Am
set_option maxRecDepth 100000

theorem is_ok (size : Int) (s : Ext) (h : Heap) (b : Nat) : ACalls Try.prog 36 [IntV size, ExtV s] h b 0 (fun r h' => r = BoolV (fitsB size s) ∧ h' = h) := by
  refine ACalls.enter Try.func36 rfl (by simp [Try.ntmps36]) (fun ι w hn H => ?_)
  unfold ExtV
  refine AWP.seqReg (by kernel_rfl) (fun E K hE hK => ?_); simp -implicitDefEqProofs only [go_sem, ↓reduceIte, Nat.reduceEqDiff, Nat.reduceAdd, Nat.reduceMul, Nat.reduceLT, Nat.reduceLeDiff, reduceCtorEq, Int.toNat_natCast]; refine hK _ _ _ ?_; clear hE hK K E
  refine AWP.seqReg (by kernel_rfl) (fun E K hE hK => ?_); simp -implicitDefEqProofs only [go_sem, ↓reduceIte, Nat.reduceEqDiff, Nat.reduceAdd, Nat.reduceMul, Nat.reduceLT, Nat.reduceLeDiff, reduceCtorEq, Int.toNat_natCast]
  refine ⟨fun h1 => ⟨fun h2 => ⟨fun h3 => ?_, fun h3 => ?_⟩, fun h2 => ?_⟩, fun h1 => ?_⟩
  all_goals
    refine hK _ _ _ ?_; clear hE hK K E
    refine AWP.ret ?_
    refine Ends.pure hn H (lowEq_upd (Nat.le_refl _) (fun _ _ => rfl)) (by rw [show Try.f36.results.toList = [.tmp 4] from rfl]; simp -implicitDefEqProofs only [go_sem, ↓reduceIte, Nat.reduceEqDiff, Nat.reduceAdd, Nat.reduceMul, Nat.reduceLT, Nat.reduceLeDiff, reduceCtorEq, Int.toNat_natCast]; rfl) (.v _) ⟨?_, rfl⟩
    simp only [fitsB, h1, Bool.true_and, Bool.false_and]
    try simp only [h2, Bool.true_and, Bool.false_and, Bool.and_false]
    try simp only [h3, Bool.true_and, Bool.false_and, Bool.and_false]

/-- at the head of Check's loop: i places seen -/
def rchkI (x : Exts) (h : Heap) (b i : Nat) (s : St) : Prop :=
  s.h b = some ⟨0, encX x⟩ ∧ (∀ id, id < b → s.h id = h id) ∧ s.t 1 = .one (.ptr b 0 0) ∧ s.t 14 = .one (.p (.sl 2 (x.free.map encE))) ∧
    s.t 15 = IntV x.free.length ∧ s.t 16 = IntV i ∧ okFree x.size (-1) x.free = okFree x.size (if i = 0 then -1 else endW (x.free.getD (i - 1) ⟨0, 0⟩)) (x.free.drop i)

theorem rchk_ok (x : Exts) (h : Heap) (b : Nat) (hl : x.free.length ≤ 1000000) : ACalls Try.prog 24 [ExtsV x] h b 0 (fun r h' => r = IntV (chk x) ∧ h' = h) := by
  refine ACalls.enter Try.func24 rfl (by simp [Try.ntmps24]) (fun ι w hn H => ?_)
  have hlow := H.lowCells
  unfold ExtsV
  have fin : ∀ (t : Nat → AV) (hh : Heap) (n : Nat) (v : Int), t 2 = IntV v → v = chk x → (∀ id, id < b → hh id = h id) → Am.Ends Try.prog ⟨Try.f24.ntmps, b, ι, h, w⟩ Try.f24 0 (fun r h' => r = IntV (chk x) ∧ h' = h) ⟨t, hh, n⟩ := by
    intro t hh n v ht hv ho
    exact Ends.pure hn H ho (r0 := IntV v) (by rw [show Try.f24.results.toList = [.tmp 2] from rfl]; simp -implicitDefEqProofs only [go_sem, ↓reduceIte, Nat.reduceEqDiff, Nat.reduceAdd, Nat.reduceMul, Nat.reduceLT, Nat.reduceLeDiff, reduceCtorEq, Int.toNat_natCast, ht]) (.v _) ⟨by rw [hv], rfl⟩
  have bad : x.size < 0 ∨ 8192 < x.size → 1 = chk x := fun hb => by unfold chk; rw [if_pos hb]
  refine AWP.seqReg (by kernel_rfl) (fun E K hE hK => ?_); simp -implicitDefEqProofs only [go_sem, ↓reduceIte, Nat.reduceEqDiff, Nat.reduceAdd, Nat.reduceMul, Nat.reduceLT, Nat.reduceLeDiff, reduceCtorEq, Int.toNat_natCast]; refine hK _ _ _ ?_; clear hE hK K E
  refine AWP.seq ?_
  refine AWP.seqReg (by kernel_rfl) (fun E K hE hK => ?_); simp -implicitDefEqProofs only [go_sem, ↓reduceIte, Nat.reduceEqDiff, Nat.reduceAdd, Nat.reduceMul, Nat.reduceLT, Nat.reduceLeDiff, reduceCtorEq, Int.toNat_natCast]
  refine ⟨fun h1 => ?_, fun h1 => ?_⟩
  · refine hK _ _ _ ?_; clear hE hK K E
    refine AWP.ifT (by simp -implicitDefEqProofs only [go_sem, ↓reduceIte, Nat.reduceEqDiff, Nat.reduceAdd, Nat.reduceMul, Nat.reduceLT, Nat.reduceLeDiff, reduceCtorEq, Int.toNat_natCast]) ?_
    refine AWP.seqReg (by kernel_rfl) (fun E K hE hK => ?_); simp -implicitDefEqProofs only [go_sem, ↓reduceIte, Nat.reduceEqDiff, Nat.reduceAdd, Nat.reduceMul, Nat.reduceLT, Nat.reduceLeDiff, reduceCtorEq, Int.toNat_natCast]; refine hK _ _ _ ?_; clear hE hK K E
    refine AWP.ret ?_
    simp -implicitDefEqProofs only [go_sem, ↓reduceIte, Nat.reduceEqDiff, Nat.reduceAdd, Nat.reduceMul, Nat.reduceLT, Nat.reduceLeDiff, reduceCtorEq, Int.toNat_natCast]
    exact fin _ _ _ 1 (by simp -implicitDefEqProofs only [go_sem, ↓reduceIte, Nat.reduceEqDiff, Nat.reduceAdd, Nat.reduceMul, Nat.reduceLT, Nat.reduceLeDiff, reduceCtorEq, Int.toNat_natCast]) (bad (.inl (by simpa using h1))) (lowEq_upd (Nat.le_refl _) (fun _ _ => rfl))
  refine hK _ _ _ ?_; clear hE hK K E
  by_cases h2 : 8192 < x.size
  · refine AWP.ifT (by simp -implicitDefEqProofs only [go_sem, ↓reduceIte, Nat.reduceEqDiff, Nat.reduceAdd, Nat.reduceMul, Nat.reduceLT, Nat.reduceLeDiff, reduceCtorEq, Int.toNat_natCast, h2]) ?_
    refine AWP.seqReg (by kernel_rfl) (fun E K hE hK => ?_); simp -implicitDefEqProofs only [go_sem, ↓reduceIte, Nat.reduceEqDiff, Nat.reduceAdd, Nat.reduceMul, Nat.reduceLT, Nat.reduceLeDiff, reduceCtorEq, Int.toNat_natCast]; refine hK _ _ _ ?_; clear hE hK K E
    refine AWP.ret ?_
    simp -implicitDefEqProofs only [go_sem, ↓reduceIte, Nat.reduceEqDiff, Nat.reduceAdd, Nat.reduceMul, Nat.reduceLT, Nat.reduceLeDiff, reduceCtorEq, Int.toNat_natCast]
    exact fin _ _ _ 1 (by simp -implicitDefEqProofs only [go_sem, ↓reduceIte, Nat.reduceEqDiff, Nat.reduceAdd, Nat.reduceMul, Nat.reduceLT, Nat.reduceLeDiff, reduceCtorEq, Int.toNat_natCast]) (bad (.inr h2)) (lowEq_upd (Nat.le_refl _) (fun _ _ => rfl))
  refine AWP.ifF (by simp -implicitDefEqProofs only [go_sem, ↓reduceIte, Nat.reduceEqDiff, Nat.reduceAdd, Nat.reduceMul, Nat.reduceLT, Nat.reduceLeDiff, reduceCtorEq, Int.toNat_natCast, h2]) ?_; refine AWP.skip ?_; simp -implicitDefEqProofs only [go_sem, ↓reduceIte, Nat.reduceEqDiff, Nat.reduceAdd, Nat.reduceMul, Nat.reduceLT, Nat.reduceLeDiff, reduceCtorEq, Int.toNat_natCast]
  refine AWP.seq ?_
  refine AWP.seqReg (by kernel_rfl) (fun E K hE hK => ?_); simp -implicitDefEqProofs only [go_sem, ↓reduceIte, Nat.reduceEqDiff, Nat.reduceAdd, Nat.reduceMul, Nat.reduceLT, Nat.reduceLeDiff, reduceCtorEq, Int.toNat_natCast]; refine hK _ _ _ ?_; clear hE hK K E
  have h1' : ¬ x.size < 0 := by simpa using h1
  have hchk : chk x = if okFree x.size (-1) x.free = true then 0 else 1 := by unfold chk; rw [if_neg (by omega)]
  refine AWP.block ?_
  refine AWP.loopUp 1 x.free.length (rchkI x h b) 0 (Nat.zero_le _) rfl ⟨by (first | (simp -implicitDefEqProofs only [go_sem, ↓reduceIte, Nat.reduceEqDiff, Nat.reduceAdd, Nat.reduceMul, Nat.reduceLT, Nat.reduceLeDiff, reduceCtorEq, Int.toNat_natCast]; done) | (simp -implicitDefEqProofs only [go_sem, ↓reduceIte, Nat.reduceEqDiff, Nat.reduceAdd, Nat.reduceMul, Nat.reduceLT, Nat.reduceLeDiff, reduceCtorEq, Int.toNat_natCast]; rfl) | rfl), (fun id (hid : id < b) => by simp -implicitDefEqProofs only [go_sem, ↓reduceIte, Nat.reduceEqDiff, Nat.reduceAdd, Nat.reduceMul, Nat.reduceLT, Nat.reduceLeDiff, reduceCtorEq, Int.toNat_natCast, show ¬ id = b by omega]), by simp -implicitDefEqProofs only [go_sem, ↓reduceIte, Nat.reduceEqDiff, Nat.reduceAdd, Nat.reduceMul, Nat.reduceLT, Nat.reduceLeDiff, reduceCtorEq, Int.toNat_natCast], by simp -implicitDefEqProofs only [go_sem, ↓reduceIte, Nat.reduceEqDiff, Nat.reduceAdd, Nat.reduceMul, Nat.reduceLT, Nat.reduceLeDiff, reduceCtorEq, Int.toNat_natCast], by simp -implicitDefEqProofs only [go_sem, ↓reduceIte, Nat.reduceEqDiff, Nat.reduceAdd, Nat.reduceMul, Nat.reduceLT, Nat.reduceLeDiff, reduceCtorEq, Int.toNat_natCast, List.length_map], by (first | (simp -implicitDefEqProofs only [go_sem, ↓reduceIte, Nat.reduceEqDiff, Nat.reduceAdd, Nat.reduceMul, Nat.reduceLT, Nat.reduceLeDiff, reduceCtorEq, Int.toNat_natCast]; done) | (simp -implicitDefEqProofs only [go_sem, ↓reduceIte, Nat.reduceEqDiff, Nat.reduceAdd, Nat.reduceMul, Nat.reduceLT, Nat.reduceLeDiff, reduceCtorEq, Int.toNat_natCast]; rfl) | rfl), rfl⟩ ?_
  rintro i ⟨t, hh, n⟩ hi ⟨hb, ho, e1, e14, e15, e16, hok⟩ hn1
  simp only at hb ho e1 e14 e15 e16 hn1
  subst hn1
  refine AWP.seqReg (by kernel_rfl) (fun E K hE hK => ?_); simp -implicitDefEqProofs only [go_sem, ↓reduceIte, Nat.reduceEqDiff, Nat.reduceAdd, Nat.reduceMul, Nat.reduceLT, Nat.reduceLeDiff, reduceCtorEq, Int.toNat_natCast, e15, e16]; refine hK _ _ _ ?_; clear hE hK K E
  by_cases hlt : (i : Int) < x.free.length
  case neg =>
    refine AWP.seq ?_
    refine AWP.ifF (by simp -implicitDefEqProofs only [go_sem, ↓reduceIte, Nat.reduceEqDiff, Nat.reduceAdd, Nat.reduceMul, Nat.reduceLT, Nat.reduceLeDiff, reduceCtorEq, Int.toNat_natCast, hlt]) ?_
    refine AWP.exit ?_
    simp -implicitDefEqProofs only [go_sem, ↓reduceIte, Nat.reduceEqDiff, Nat.reduceAdd, Nat.reduceMul, Nat.reduceLT, Nat.reduceLeDiff, reduceCtorEq, Int.toNat_natCast]
    refine AWP.seqReg (by kernel_rfl) (fun E K hE hK => ?_); simp -implicitDefEqProofs only [go_sem, ↓reduceIte, Nat.reduceEqDiff, Nat.reduceAdd, Nat.reduceMul, Nat.reduceLT, Nat.reduceLeDiff, reduceCtorEq, Int.toNat_natCast]; refine hK _ _ _ ?_; clear hE hK K E
    refine AWP.ret ?_
    simp -implicitDefEqProofs only [go_sem, ↓reduceIte, Nat.reduceEqDiff, Nat.reduceAdd, Nat.reduceMul, Nat.reduceLT, Nat.reduceLeDiff, reduceCtorEq, Int.toNat_natCast]
    refine fin _ _ _ 0 (by simp -implicitDefEqProofs only [go_sem, ↓reduceIte, Nat.reduceEqDiff, Nat.reduceAdd, Nat.reduceMul, Nat.reduceLT, Nat.reduceLeDiff, reduceCtorEq, Int.toNat_natCast]) ?_ ho
    have : i = x.free.length := by omega
    subst this
    rw [hchk, hok]; simp [okFree]
  have hi2 : i < x.free.length := by omega
  have hge := getD_map_encE x.free i hi2
  have hstep : ∀ last, okFree x.size last (x.free.drop i) = (fitsB x.size x.free[i] && (decide (last < x.free[i].at_) && okFree x.size (endW x.free[i]) (x.free.drop (i + 1)))) := by
    intro last
    rw [List.drop_eq_getElem_cons hi2]; rfl
  have hgi : x.free.getD i ⟨0, 0⟩ = x.free[i] := by simp [List.getD, hi2]
  refine AWP.seq ?_
  refine AWP.ifT (by simp -implicitDefEqProofs only [go_sem, ↓reduceIte, Nat.reduceEqDiff, Nat.reduceAdd, Nat.reduceMul, Nat.reduceLT, Nat.reduceLeDiff, reduceCtorEq, Int.toNat_natCast, hlt]) ?_
  refine AWP.skip ?_
  simp -implicitDefEqProofs only [go_sem, ↓reduceIte, Nat.reduceEqDiff, Nat.reduceAdd, Nat.reduceMul, Nat.reduceLT, Nat.reduceLeDiff, reduceCtorEq, Int.toNat_natCast]
  refine AWP.seq ?_
  refine AWP.block ?_
  generalize x.free[i] = s at hge hstep hgi
  refine AWP.seqReg (by kernel_rfl) (fun E K hE hK => ?_); simp -implicitDefEqProofs only [go_sem, ↓reduceIte, Nat.reduceEqDiff, Nat.reduceAdd, Nat.reduceMul, Nat.reduceLT, Nat.reduceLeDiff, reduceCtorEq, Int.toNat_natCast, e14, e16, hge, encE, List.length_map]
  refine ⟨⟨by omega, by omega⟩, ?_⟩
  refine hK _ _ _ ?_; clear hE hK K E
  have hend : okFree x.size (-1) x.free = false → 1 = chk x := fun hh => by rw [hchk, if_neg (by simp [hh])]
  by_cases hf : fitsB x.size s = true
  case neg =>
    simp only [Bool.not_eq_true] at hf
    refine AWP.seqRegDG [] [] [] mixed (by kernel_rfl) (by kernel_rfl) (fun K hK => ?_); simp -implicitDefEqProofs only [go_sem, ↓reduceIte, Nat.reduceEqDiff, Nat.reduceAdd, Nat.reduceMul, Nat.reduceLT, Nat.reduceLeDiff, reduceCtorEq, Int.toNat_natCast, e1, hb, encX]
    refine CallD.use (is_ok x.size s _ _) body_36 ?_; rintro _ h_ ⟨rfl, e_⟩; rw [e_]; clear e_ h_; refine ⟨Sub.refl _, ?_⟩; simp -implicitDefEqProofs only [go_sem, ↓reduceIte, Nat.reduceEqDiff, Nat.reduceAdd, Nat.reduceMul, Nat.reduceLT, Nat.reduceLeDiff, reduceCtorEq, Int.toNat_natCast]
    simp -implicitDefEqProofs only [go_sem, ↓reduceIte, Nat.reduceEqDiff, Nat.reduceAdd, Nat.reduceMul, Nat.reduceLT, Nat.reduceLeDiff, reduceCtorEq, Int.toNat_natCast, hf, Bool.not_false]
    repeat (first | (refine evD_guardT 26 rfl ?_; simp -implicitDefEqProofs only [go_sem, ↓reduceIte, Nat.reduceEqDiff, Nat.reduceAdd, Nat.reduceMul, Nat.reduceLT, Nat.reduceLeDiff, reduceCtorEq, Int.toNat_natCast]) | (refine evD_guardT 29 rfl ?_; simp -implicitDefEqProofs only [go_sem, ↓reduceIte, Nat.reduceEqDiff, Nat.reduceAdd, Nat.reduceMul, Nat.reduceLT, Nat.reduceLeDiff, reduceCtorEq, Int.toNat_natCast]))
    refine hK _ _ _ ?_; clear hK K
    refine AWP.ifT (by simp -implicitDefEqProofs only [go_sem, ↓reduceIte, Nat.reduceEqDiff, Nat.reduceAdd, Nat.reduceMul, Nat.reduceLT, Nat.reduceLeDiff, reduceCtorEq, Int.toNat_natCast]) ?_
    refine AWP.seqReg (by kernel_rfl) (fun E K hE hK => ?_); simp -implicitDefEqProofs only [go_sem, ↓reduceIte, Nat.reduceEqDiff, Nat.reduceAdd, Nat.reduceMul, Nat.reduceLT, Nat.reduceLeDiff, reduceCtorEq, Int.toNat_natCast]; refine hK _ _ _ ?_; clear hE hK K E
    refine AWP.ret ?_
    simp -implicitDefEqProofs only [go_sem, ↓reduceIte, Nat.reduceEqDiff, Nat.reduceAdd, Nat.reduceMul, Nat.reduceLT, Nat.reduceLeDiff, reduceCtorEq, Int.toNat_natCast]
    refine fin _ _ _ 1 (by simp -implicitDefEqProofs only [go_sem, ↓reduceIte, Nat.reduceEqDiff, Nat.reduceAdd, Nat.reduceMul, Nat.reduceLT, Nat.reduceLeDiff, reduceCtorEq, Int.toNat_natCast]) (hend ?_) (fun id (hid : id < b) => by simp -implicitDefEqProofs only [go_sem, ↓reduceIte, Nat.reduceEqDiff, Nat.reduceAdd, Nat.reduceMul, Nat.reduceLT, Nat.reduceLeDiff, reduceCtorEq, Int.toNat_natCast, show ¬ id = b by omega, show ¬ id = b + 1 by omega, ho id hid])
    rw [hok, hstep, hf]; rfl
  by_cases hi0 : i = 0
  case pos =>
    refine AWP.seqRegDG [] [] [] mixed (by kernel_rfl) (by kernel_rfl) (fun K hK => ?_); simp -implicitDefEqProofs only [go_sem, ↓reduceIte, Nat.reduceEqDiff, Nat.reduceAdd, Nat.reduceMul, Nat.reduceLT, Nat.reduceLeDiff, reduceCtorEq, Int.toNat_natCast, e1, hb, encX]
    refine CallD.use (is_ok x.size s _ _) body_36 ?_; rintro _ h_ ⟨rfl, e_⟩; rw [e_]; clear e_ h_; refine ⟨Sub.refl _, ?_⟩; simp -implicitDefEqProofs only [go_sem, ↓reduceIte, Nat.reduceEqDiff, Nat.reduceAdd, Nat.reduceMul, Nat.reduceLT, Nat.reduceLeDiff, reduceCtorEq, Int.toNat_natCast]
    simp -implicitDefEqProofs only [go_sem, ↓reduceIte, Nat.reduceEqDiff, Nat.reduceAdd, Nat.reduceMul, Nat.reduceLT, Nat.reduceLeDiff, reduceCtorEq, Int.toNat_natCast, hf, Bool.not_true]
    repeat (first | (refine evD_guardT 26 rfl ?_; simp -implicitDefEqProofs only [go_sem, ↓reduceIte, Nat.reduceEqDiff, Nat.reduceAdd, Nat.reduceMul, Nat.reduceLT, Nat.reduceLeDiff, reduceCtorEq, Int.toNat_natCast, show ¬ (0 : Int) < (i : Int) by omega, decide_false]) | (refine evD_guardT 29 rfl ?_; simp -implicitDefEqProofs only [go_sem, ↓reduceIte, Nat.reduceEqDiff, Nat.reduceAdd, Nat.reduceMul, Nat.reduceLT, Nat.reduceLeDiff, reduceCtorEq, Int.toNat_natCast]))
    refine hK _ _ _ ?_; clear hK K
    refine AWP.ifF (by simp -implicitDefEqProofs only [go_sem, ↓reduceIte, Nat.reduceEqDiff, Nat.reduceAdd, Nat.reduceMul, Nat.reduceLT, Nat.reduceLeDiff, reduceCtorEq, Int.toNat_natCast]) ?_; refine AWP.skip ?_; simp -implicitDefEqProofs only [go_sem, ↓reduceIte, Nat.reduceEqDiff, Nat.reduceAdd, Nat.reduceMul, Nat.reduceLT, Nat.reduceLeDiff, reduceCtorEq, Int.toNat_natCast]
    refine AWP.reg (by kernel_rfl) (fun E K hE hK => ?_); simp -implicitDefEqProofs only [go_sem, ↓reduceIte, Nat.reduceEqDiff, Nat.reduceAdd, Nat.reduceMul, Nat.reduceLT, Nat.reduceLeDiff, reduceCtorEq, Int.toNat_natCast, e16]; refine hK _ _ _ ?_; clear hE hK K E
    refine ⟨(by decide : 1 ≤ 2), hi2, cutH_same (Nat.lt_succ_self _) (by simp -implicitDefEqProofs only [go_sem, ↓reduceIte, Nat.reduceEqDiff, Nat.reduceAdd, Nat.reduceMul, Nat.reduceLT, Nat.reduceLeDiff, reduceCtorEq, Int.toNat_natCast, hb]) rfl, cutH_outer (Nat.le_succ _) (lowEq_upd (Nat.le_succ _) ho) hlow, by simp -implicitDefEqProofs only [go_sem, ↓reduceIte, Nat.reduceEqDiff, Nat.reduceAdd, Nat.reduceMul, Nat.reduceLT, Nat.reduceLeDiff, reduceCtorEq, Int.toNat_natCast, e1]; exact cutV_ptr (Nat.lt_succ_self _), by simp -implicitDefEqProofs only [go_sem, ↓reduceIte, Nat.reduceEqDiff, Nat.reduceAdd, Nat.reduceMul, Nat.reduceLT, Nat.reduceLeDiff, reduceCtorEq, Int.toNat_natCast, e14], by simp -implicitDefEqProofs only [go_sem, ↓reduceIte, Nat.reduceEqDiff, Nat.reduceAdd, Nat.reduceMul, Nat.reduceLT, Nat.reduceLeDiff, reduceCtorEq, Int.toNat_natCast, e15], ?_, ?_⟩
    · simp -implicitDefEqProofs only [go_sem, ↓reduceIte, Nat.reduceEqDiff, Nat.reduceAdd, Nat.reduceMul, Nat.reduceLT, Nat.reduceLeDiff, reduceCtorEq, Int.toNat_natCast, e16]; rw [wrap_i64 (by omega) (by omega)]; rfl
    · rw [hok, hstep, hf, if_pos hi0, if_neg (Nat.succ_ne_zero _), Nat.add_sub_cancel, hgi]
      have := ((fits_iff (by omega) (by omega)).1 hf).1
      simp only [Bool.true_and]
      rw [decide_eq_true (by omega : (-1 : Int) < s.at_)]; rfl
  have hip : (0 : Int) < i := by omega
  have hw : IntKind.i64.wrap ((i : Int) - 1) = ((i - 1 : Nat) : Int) := by rw [wrap_i64 (by omega) (by omega)]; omega
  have hw2 : IntKind.i64.wrap ((i : Int) + 1) = ((i + 1 : Nat) : Int) := by rw [wrap_i64 (by omega) (by omega)]; omega
  have hgp := getD_map_encE x.free (i - 1) (by omega)
  rw [if_neg hi0, show x.free.getD (i - 1) ⟨0, 0⟩ = x.free[i - 1] by simp [List.getD, show i - 1 < x.free.length by omega]] at hok
  have hib1 : (0 : Int) ≤ ((i - 1 : Nat) : Int) := by omega
  have hib2 : ((i - 1 : Nat) : Int) < x.free.length := by omega
  generalize x.free[i - 1] = p at hgp hok
  refine AWP.seqRegDG [] [] [] mixed (by kernel_rfl) (by kernel_rfl) (fun K hK => ?_); simp -implicitDefEqProofs only [go_sem, ↓reduceIte, Nat.reduceEqDiff, Nat.reduceAdd, Nat.reduceMul, Nat.reduceLT, Nat.reduceLeDiff, reduceCtorEq, Int.toNat_natCast, e1, hb, encX]
  refine CallD.use (is_ok x.size s _ _) body_36 ?_; rintro _ h_ ⟨rfl, e_⟩; rw [e_]; clear e_ h_; refine ⟨Sub.refl _, ?_⟩; simp -implicitDefEqProofs only [go_sem, ↓reduceIte, Nat.reduceEqDiff, Nat.reduceAdd, Nat.reduceMul, Nat.reduceLT, Nat.reduceLeDiff, reduceCtorEq, Int.toNat_natCast]
  simp -implicitDefEqProofs only [go_sem, ↓reduceIte, Nat.reduceEqDiff, Nat.reduceAdd, Nat.reduceMul, Nat.reduceLT, Nat.reduceLeDiff, reduceCtorEq, Int.toNat_natCast, hf, Bool.not_true]
  refine evD_guardT 26 rfl ?_; simp -implicitDefEqProofs only [go_sem, ↓reduceIte, Nat.reduceEqDiff, Nat.reduceAdd, Nat.reduceMul, Nat.reduceLT, Nat.reduceLeDiff, reduceCtorEq, Int.toNat_natCast, hip, decide_true]
  refine evD_guardT 26 rfl ?_; simp -implicitDefEqProofs only [go_sem, ↓reduceIte, Nat.reduceEqDiff, Nat.reduceAdd, Nat.reduceMul, Nat.reduceLT, Nat.reduceLeDiff, reduceCtorEq, Int.toNat_natCast, hip, decide_true]
  refine evD_guardT 26 rfl ?_; simp -implicitDefEqProofs only [go_sem, ↓reduceIte, Nat.reduceEqDiff, Nat.reduceAdd, Nat.reduceMul, Nat.reduceLT, Nat.reduceLeDiff, reduceCtorEq, Int.toNat_natCast, hip, decide_true]
  refine evD_guardT 29 rfl ?_; simp -implicitDefEqProofs only [go_sem, ↓reduceIte, Nat.reduceEqDiff, Nat.reduceAdd, Nat.reduceMul, Nat.reduceLT, Nat.reduceLeDiff, reduceCtorEq, Int.toNat_natCast, hb, encX, e1]
  refine evD_guardT 29 rfl ?_; simp -implicitDefEqProofs only [go_sem, ↓reduceIte, Nat.reduceEqDiff, Nat.reduceAdd, Nat.reduceMul, Nat.reduceLT, Nat.reduceLeDiff, reduceCtorEq, Int.toNat_natCast, hb, encX, e1]
  refine evD_guardT 29 rfl ?_; simp -implicitDefEqProofs only [go_sem, ↓reduceIte, Nat.reduceEqDiff, Nat.reduceAdd, Nat.reduceMul, Nat.reduceLT, Nat.reduceLeDiff, reduceCtorEq, Int.toNat_natCast, hb, encX, e1]
  refine evD_guardT 29 rfl ?_; simp -implicitDefEqProofs only [go_sem, ↓reduceIte, Nat.reduceEqDiff, Nat.reduceAdd, Nat.reduceMul, Nat.reduceLT, Nat.reduceLeDiff, reduceCtorEq, Int.toNat_natCast, hb, encX, e1, hw]
  refine evD_guardT 29 rfl ?_; simp -implicitDefEqProofs only [go_sem, ↓reduceIte, Nat.reduceEqDiff, Nat.reduceAdd, Nat.reduceMul, Nat.reduceLT, Nat.reduceLeDiff, reduceCtorEq, Int.toNat_natCast, hb, encX, e1, hw, hgp, encE]
  refine ⟨⟨hib1, hib2⟩, ?_⟩
  repeat (first | (refine evD_guardT 29 rfl ?_; simp -implicitDefEqProofs only [go_sem, ↓reduceIte, Nat.reduceEqDiff, Nat.reduceAdd, Nat.reduceMul, Nat.reduceLT, Nat.reduceLeDiff, reduceCtorEq, Int.toNat_natCast, hb, encX, e1, hw, hgp, encE]) | (refine evD_guardT 26 rfl ?_; simp -implicitDefEqProofs only [go_sem, ↓reduceIte, Nat.reduceEqDiff, Nat.reduceAdd, Nat.reduceMul, Nat.reduceLT, Nat.reduceLeDiff, reduceCtorEq, Int.toNat_natCast, hb, encX, e1, hw, hgp, encE]) | (refine ⟨⟨hib1, hib2⟩, ?_⟩))
  refine hK _ _ _ ?_; clear hK K
  by_cases hle : s.at_ ≤ endW p
  · refine AWP.ifT (by simp -implicitDefEqProofs only [go_sem, ↓reduceIte, Nat.reduceEqDiff, Nat.reduceAdd, Nat.reduceMul, Nat.reduceLT, Nat.reduceLeDiff, reduceCtorEq, Int.toNat_natCast, show s.at_ ≤ IntKind.i64.wrap (p.at_ + p.len) from hle]) ?_
    refine AWP.seqReg (by kernel_rfl) (fun E K hE hK => ?_); simp -implicitDefEqProofs only [go_sem, ↓reduceIte, Nat.reduceEqDiff, Nat.reduceAdd, Nat.reduceMul, Nat.reduceLT, Nat.reduceLeDiff, reduceCtorEq, Int.toNat_natCast]; refine hK _ _ _ ?_; clear hE hK K E
    refine AWP.ret ?_
    simp -implicitDefEqProofs only [go_sem, ↓reduceIte, Nat.reduceEqDiff, Nat.reduceAdd, Nat.reduceMul, Nat.reduceLT, Nat.reduceLeDiff, reduceCtorEq, Int.toNat_natCast]
    refine fin _ _ _ 1 (by simp -implicitDefEqProofs only [go_sem, ↓reduceIte, Nat.reduceEqDiff, Nat.reduceAdd, Nat.reduceMul, Nat.reduceLT, Nat.reduceLeDiff, reduceCtorEq, Int.toNat_natCast]) (hend ?_) (fun id (hid : id < b) => by simp -implicitDefEqProofs only [go_sem, ↓reduceIte, Nat.reduceEqDiff, Nat.reduceAdd, Nat.reduceMul, Nat.reduceLT, Nat.reduceLeDiff, reduceCtorEq, Int.toNat_natCast, show ¬ id = b by omega, show ¬ id = b + 1 by omega, ho id hid])
    rw [hok, hstep, hf, decide_eq_false (by omega : ¬ endW p < s.at_)]; rfl
  · refine AWP.ifF (by simp -implicitDefEqProofs only [go_sem, ↓reduceIte, Nat.reduceEqDiff, Nat.reduceAdd, Nat.reduceMul, Nat.reduceLT, Nat.reduceLeDiff, reduceCtorEq, Int.toNat_natCast, show ¬ s.at_ ≤ IntKind.i64.wrap (p.at_ + p.len) from hle]) ?_; refine AWP.skip ?_; simp -implicitDefEqProofs only [go_sem, ↓reduceIte, Nat.reduceEqDiff, Nat.reduceAdd, Nat.reduceMul, Nat.reduceLT, Nat.reduceLeDiff, reduceCtorEq, Int.toNat_natCast]
    refine AWP.reg (by kernel_rfl) (fun E K hE hK => ?_); simp -implicitDefEqProofs only [go_sem, ↓reduceIte, Nat.reduceEqDiff, Nat.reduceAdd, Nat.reduceMul, Nat.reduceLT, Nat.reduceLeDiff, reduceCtorEq, Int.toNat_natCast, e16]; refine hK _ _ _ ?_; clear hE hK K E
    refine ⟨(by decide : 1 ≤ 2), hi2, cutH_same (Nat.lt_succ_self _) (by simp -implicitDefEqProofs only [go_sem, ↓reduceIte, Nat.reduceEqDiff, Nat.reduceAdd, Nat.reduceMul, Nat.reduceLT, Nat.reduceLeDiff, reduceCtorEq, Int.toNat_natCast, hb]) rfl, cutH_outer (Nat.le_succ _) (lowEq_upd (Nat.le_succ _) ho) hlow, by simp -implicitDefEqProofs only [go_sem, ↓reduceIte, Nat.reduceEqDiff, Nat.reduceAdd, Nat.reduceMul, Nat.reduceLT, Nat.reduceLeDiff, reduceCtorEq, Int.toNat_natCast, e1]; exact cutV_ptr (Nat.lt_succ_self _), by simp -implicitDefEqProofs only [go_sem, ↓reduceIte, Nat.reduceEqDiff, Nat.reduceAdd, Nat.reduceMul, Nat.reduceLT, Nat.reduceLeDiff, reduceCtorEq, Int.toNat_natCast, e14], by simp -implicitDefEqProofs only [go_sem, ↓reduceIte, Nat.reduceEqDiff, Nat.reduceAdd, Nat.reduceMul, Nat.reduceLT, Nat.reduceLeDiff, reduceCtorEq, Int.toNat_natCast, e15], ?_, ?_⟩
    · simp -implicitDefEqProofs only [go_sem, ↓reduceIte, Nat.reduceEqDiff, Nat.reduceAdd, Nat.reduceMul, Nat.reduceLT, Nat.reduceLeDiff, reduceCtorEq, Int.toNat_natCast, e16, hw2]
    · rw [hok, hstep, hf, if_neg (Nat.succ_ne_zero _), Nat.add_sub_cancel, hgi, decide_eq_true (by omega : endW p < s.at_)]; rfl

end Go.Proofs.Ytdannmfdenlikaa

namespace Go.Proofs.Ytdannmfdenlikaa
set_option linter.unusedSimpArgs false
set_option linter.unusedVariables false
set_option linter.unnecessarySimpa false
open Go Am

def bitB (x : Exts) (p : Nat) : Bool := decide (0 < cnt x.free p)

/-- the last one is one longer -/
def bump (l : List Ext) : List Ext := l.set (l.length - 1) ⟨(l.getD (l.length - 1) ⟨0, 0⟩).at_, W ((l.getD (l.length - 1) ⟨0, 0⟩).len + 1)⟩

/-- the extents of the first i bits -/
def runs (f : Nat → Bool) : Nat → List Ext
  | 0 => []
  | i + 1 => if f i = true then (if 0 < i ∧ f (i - 1) = true then bump (runs f i) else runs f i ++ [⟨i, 1⟩]) else runs f i

theorem bump_app (A : List Ext) (e : Ext) : bump (A ++ [e]) = A ++ [⟨e.at_, W (e.len + 1)⟩] := by
  unfold bump
  have h1 : (A ++ [e]).length - 1 = A.length := by simp
  rw [h1]
  simp [List.getD]

theorem endOf_snoc : ∀ (A : List Ext) (lo : Int) (e : Ext), endOf lo (A ++ [e]) = e.at_ + e.len
  | [], _, _ => rfl
  | _ :: A, _, e => endOf_snoc A _ e

theorem runs_inv (f : Nat → Bool) : ∀ i, i ≤ 8192 → Srt (-1) (runs f i) ∧ (∀ e ∈ runs f i, e.at_ + e.len ≤ (i : Int)) ∧ (∀ p : Int, cnt (runs f i) p = if 0 ≤ p ∧ p < i ∧ f p.toNat = true then 1 else 0) ∧
    (0 < i → f (i - 1) = true → ∃ A e, runs f i = A ++ [e] ∧ e.at_ + e.len = (i : Int))
  | 0, _ => ⟨trivial, by simp [runs], fun p => by rw [if_neg (by omega)]; rfl, by simp⟩
  | i + 1, hi => by
    obtain ⟨h1, h2, h3, h4⟩ := runs_inv f i (by omega)
    unfold runs
    by_cases hf : f i = true
    · rw [if_pos hf]
      by_cases hp : 0 < i ∧ f (i - 1) = true
      · rw [if_pos hp]
        obtain ⟨A, e, e1, e2⟩ := h4 hp.1 hp.2
        rw [e1] at h1 h2 h3 ⊢
        have he := h1.mem e (by simp)
        have hW : W (e.len + 1) = e.len + 1 := W_in (by omega) (by omega)
        rw [bump_app, hW]
        obtain ⟨s1, s2, s3, s4⟩ := Srt.app.1 h1
        refine ⟨Srt.app.2 ⟨s1, s2, by simp only; omega, trivial⟩, fun x hx => ?_, fun p => ?_, fun _ _ => ⟨A, _, rfl, by simp only; omega⟩⟩
        · rcases List.mem_append.1 hx with hx | hx
          · have := h2 x (by simp [hx]); omega
          · rw [List.mem_singleton.1 hx]; simp only; omega
        · have h5 := h3 p
          simp only [cnt_app, cnt_cons, cnt_nil] at h5 ⊢
          by_cases hpi : p = i
          · subst hpi
            rw [if_neg (by omega)] at h5
            have : ind (⟨e.at_, e.len + 1⟩ : Ext) (i : Int) = 1 := ind_iff.2 (by simp only; omega)
            rw [if_pos ⟨by omega, by omega, by simpa using hf⟩]
            omega
          · have : ind (⟨e.at_, e.len + 1⟩ : Ext) p = ind e p := by unfold ind; simp only; split <;> split <;> omega
            rw [this, h5]
            by_cases hc : 0 ≤ p ∧ p < (i : Int) ∧ f p.toNat = true
            · rw [if_pos hc, if_pos ⟨hc.1, by omega, hc.2.2⟩]
            · rw [if_neg hc, if_neg (fun hh => hc ⟨hh.1, by omega, hh.2.2⟩)]
      · rw [if_neg hp]
        have hend : endOf (-1) (runs f i) < i := by
          rcases List.eq_nil_or_concat (runs f i) with h0 | ⟨A, e, h0⟩
          · rw [h0]; simp only [endOf]; omega
          · rw [h0] at h1 h2 h3 ⊢
            simp only [List.concat_eq_append] at h1 h2 h3 ⊢
            rw [endOf_snoc]
            have he := h1.mem e (by simp)
            have hle := h2 e (by simp)
            rcases Int.lt_or_eq_of_le hle with hlt | heq
            · exact hlt
            · exfalso
              have h5 := h3 ((i : Int) - 1)
              have h6 := cnt_pos (l := A ++ [e]) (e := e) (p := (i : Int) - 1) (by simp) (ind_iff.2 (by omega))
              by_cases hc : 0 ≤ (i : Int) - 1 ∧ (i : Int) - 1 < i ∧ f ((i : Int) - 1).toNat = true
              · exact hp ⟨by omega, by have := hc.2.2; rwa [show ((i : Int) - 1).toNat = i - 1 by omega] at this⟩
              · rw [if_neg hc] at h5; omega
        refine ⟨Srt.app.2 ⟨h1, hend, by simp only; omega, trivial⟩, fun x hx => ?_, fun p => ?_, fun _ _ => ⟨_, _, rfl, by simp only; omega⟩⟩
        · rcases List.mem_append.1 hx with hx | hx
          · have := h2 x hx; omega
          · rw [List.mem_singleton.1 hx]; simp only; omega
        · have h5 := h3 p
          simp only [cnt_app, cnt_cons, cnt_nil]
          by_cases hpi : p = i
          · subst hpi
            rw [if_neg (by omega)] at h5
            rw [if_pos ⟨by omega, by omega, by simpa using hf⟩, h5, ind_pos (Int.le_refl _) (by simp only; omega)]
          · rw [ind_zero (by simp only; omega), h5]
            by_cases hc : 0 ≤ p ∧ p < (i : Int) ∧ f p.toNat = true
            · rw [if_pos hc, if_pos ⟨hc.1, by omega, hc.2.2⟩]
            · rw [if_neg hc, if_neg (fun hh => hc ⟨hh.1, by omega, hh.2.2⟩)]
    · rw [if_neg hf]
      refine ⟨h1, fun e he => by have := h2 e he; omega, fun p => ?_, fun _ hh => absurd (by simpa using hh) hf⟩
      rw [h3 p]
      by_cases hc : 0 ≤ p ∧ p < (i : Int) ∧ f p.toNat = true
      · rw [if_pos hc, if_pos ⟨hc.1, by omega, hc.2.2⟩]
      · rw [if_neg hc, if_neg (fun hh => by
          rcases Int.lt_or_le p i with hlt | hge
          · exact hc ⟨hh.1, hlt, hh.2.2⟩
          · have : p.toNat = i := by omega
            rw [this] at hh
            exact hf hh.2.2)]

theorem runs_len (f : Nat → Bool) : ∀ i, (runs f i).length ≤ i
  | 0 => Nat.le_refl _
  | i + 1 => by
    have := runs_len f i
    unfold runs
    split
    · split
      · unfold bump; rw [List.length_set]; omega
      · simp; omega
    · omega

def ofX (f : Nat → Bool) (sz : Nat) : Exts := ⟨sz, runs f sz⟩

theorem ofX_eq {f : Nat → Bool} {sz : Nat} {y : Exts} (hsz : sz ≤ 8192) (hy : chk y = 0) (hs : y.size = sz) (h : ∀ p : Nat, p < sz → cnt y.free p = if f p = true then 1 else 0) : ofX f sz = y := by
  obtain ⟨h1, h2, h3, _⟩ := runs_inv f sz hsz
  refine chk_inj (chk_iff.2 ⟨by show (0 : Int) ≤ (sz : Int); omega, by show (sz : Int) ≤ 8192; omega, h1, h2⟩) hy hs.symm (fun p => ?_)
  show cnt (runs f sz) p = cnt y.free p
  rw [h3 p]
  by_cases hc : 0 ≤ p ∧ p < (sz : Int)
  · have := h p.toNat (by omega)
    rw [show ((p.toNat : Nat) : Int) = p by omega] at this
    rw [this]
    by_cases hf : f p.toNat = true
    · rw [if_pos ⟨hc.1, hc.2, hf⟩, if_pos hf]
    · rw [if_neg (fun hh => hf hh.2.2), if_neg hf]
  · rw [if_neg (fun hh => hc ⟨hh.1, hh.2.1⟩)]
    rcases Nat.eq_zero_or_pos (cnt y.free p) with h0 | h0
    · exact h0.symm
    · have := cnt_in hy h0
      rw [hs] at this
      exact absurd this hc

/-- how many sectors there are -/
theorem sum_ind (e : Ext) (h0 : 0 ≤ e.at_) (h1 : 0 ≤ e.len) : ∀ sz : Nat, ((List.range sz).map fun p : Nat => ind e p).sum = (min (sz : Int) (e.at_ + e.len) - min (sz : Int) e.at_).toNat
  | 0 => by simp; omega
  | n + 1 => by
    rw [List.range_succ, List.map_append, List.sum_append, sum_ind e h0 h1 n]
    simp only [List.map_cons, List.map_nil, List.sum_cons, List.sum_nil]
    unfold ind
    split <;> omega

theorem sum_cnt : ∀ (l : List Ext) (sz : Nat), (∀ e ∈ l, 0 ≤ e.at_ ∧ 0 ≤ e.len ∧ e.at_ + e.len ≤ sz) → ((((List.range sz).map fun p : Nat => cnt l p).sum : Nat) : Int) = lens l
  | [], sz, _ => by
    have : ((List.range sz).map fun p : Nat => cnt [] p) = (List.range sz).map fun _ => 0 := List.map_congr_left fun _ _ => rfl
    rw [this]
    have h2 : ∀ n : Nat, ((List.range n).map fun _ : Nat => 0).sum = 0 := by
      intro n
      induction n with
      | zero => rfl
      | succ n ih => rw [List.range_succ, List.map_append, List.sum_append, ih]; rfl
    rw [h2]
    simp [lens]
  | e :: l, sz, h => by
    have he := h e (by simp)
    have hl := sum_cnt l sz (fun x hx => h x (by simp [hx]))
    have h2 : ∀ n : Nat, ((List.range n).map fun p : Nat => cnt (e :: l) p).sum = ((List.range n).map fun p : Nat => ind e p).sum + ((List.range n).map fun p : Nat => cnt l p).sum := by
      intro n
      induction n with
      | zero => rfl
      | succ n ih =>
        rw [List.range_succ]
        simp only [List.map_append, List.sum_append, List.map_cons, List.map_nil, List.sum_cons, List.sum_nil]
        rw [ih, cnt_cons]
        omega
    rw [h2, lens_cons, sum_ind e he.1 he.2.1]
    omega

end Go.Proofs.Ytdannmfdenlikaa

namespace Go.Proofs.Ytdannmfdenlikaa
set_option linter.unusedSimpArgs false
set_option linter.unusedVariables false
set_option linter.unnecessarySimpa false
open Go Am
set_option maxRecDepth 100000

/-- a row of bits -/
def bitsC (f : Nat → Bool) (sz : Nat) : List Cell := (List.range sz).map fun p => .p (.v (.bool (f p)))
theorem bitsC_len (f : Nat → Bool) (sz : Nat) : (bitsC f sz).length = sz := by simp [bitsC]
theorem bitsC_get (f : Nat → Bool) {sz k : Nat} (h : k < sz) : (bitsC f sz)[k]? = some (.p (.v (.bool (f k)))) := by
  simp [bitsC, List.getElem?_map, List.getElem?_range h]
theorem bitsC_low (b : Nat) (f : Nat → Bool) (sz : Nat) : lowCs b (bitsC f sz) = true := lowCs_of fun c hc => by
  obtain ⟨v, _, rfl⟩ := List.mem_map.1 hc
  rfl
theorem bitsC_congr {f g : Nat → Bool} {sz : Nat} (h : ∀ p, p < sz → f p = g p) : bitsC f sz = bitsC g sz := by
  unfold bitsC
  exact List.map_congr_left fun p hp => by rw [h p (List.mem_range.1 hp)]
theorem bitsC_set {f g : Nat → Bool} {sz k : Nat} (hk : k < sz) (v : Bool) (h1 : g k = v) (h2 : ∀ p, p < sz → p ≠ k → g p = f p) :
    List.take k (bitsC f sz) ++ .p (.v (.bool v)) :: List.drop (k + 1) (bitsC f sz) = bitsC g sz := by
  have : (bitsC f sz).set k (.p (.v (.bool v))) = bitsC g sz := by
    apply List.ext_getElem?
    intro i
    rw [List.getElem?_set, bitsC_len]
    by_cases hi : k = i
    · subst hi; rw [if_pos rfl, if_pos hk, bitsC_get g hk, h1]
    · rw [if_neg hi]
      by_cases hs : i < sz
      · rw [bitsC_get f hs, bitsC_get g hs, h2 i hs (fun h => hi h.symm)]
      · rw [List.getElem?_eq_none (by rw [bitsC_len]; omega), List.getElem?_eq_none (by rw [bitsC_len]; omega)]
  rw [← this, List.set_eq_take_append_cons_drop, if_pos (by rw [bitsC_len]; exact hk)]
theorem bitsC_repl (n : Nat) : repl [Cell.p (.v (.bool false))] n = bitsC (fun _ => false) n := by
  induction n with
  | zero => rfl
  | succ n ih =>
    show _ :: _ = _
    have : ∀ n, bitsC (fun _ => false) n = List.replicate n (Cell.p (.v (.bool false))) := fun n => by
      unfold bitsC; rw [List.map_const', List.length_range]
    rw [this] at ih ⊢
    rw [List.replicate_succ]; exact congrArg _ ih

def takB (x : Exts) (i : Nat) (p : Nat) : Bool := decide (0 < cnt (x.free.take i) p)
def tajB (x : Exts) (i : Nat) (s : Ext) (j : Nat) (p : Nat) : Bool := takB x i p || decide (s.at_ ≤ (p : Int) ∧ (p : Int) < s.at_ + (j : Int))

def bitI (x : Exts) (sz : Nat) (h : Heap) (b i : Nat) (st : St) : Prop :=
  st.h b = some ⟨0, encX x⟩ ∧ st.h (b + 1) = some ⟨0, bitsC (takB x i) sz⟩ ∧ (∀ id, id < b → st.h id = h id) ∧ st.t 1 = .one (.ptr b 0 0) ∧ st.t 3 = .one (.win (b + 1) 0 0 sz sz) ∧
    st.t 11 = .one (.p (.sl 2 (x.free.map encE))) ∧ st.t 12 = IntV x.free.length ∧ st.t 13 = IntV i

def bitJ (x : Exts) (sz : Nat) (h : Heap) (b i : Nat) (s : Ext) (j : Nat) (st : St) : Prop :=
  st.h b = some ⟨0, encX x⟩ ∧ st.h (b + 1) = some ⟨0, bitsC (tajB x i s j) sz⟩ ∧ st.h (b + 2) = some ⟨0, (encE s).map .p⟩ ∧ (∀ id, id < b → st.h id = h id) ∧ st.t 1 = .one (.ptr b 0 0) ∧ st.t 3 = .one (.win (b + 1) 0 0 sz sz) ∧ st.t 5 = .one (.ptr (b + 2) 0 0) ∧
    st.t 11 = .one (.p (.sl 2 (x.free.map encE))) ∧ st.t 12 = IntV x.free.length ∧ st.t 13 = IntV i ∧ st.t 18 = IntV s.len ∧ st.t 19 = IntV j

theorem bits_ok (x : Exts) (h : Heap) (b : Nat) (hc : chk x = 0) (sz : Nat) (hsz : x.size = (sz : Int)) (hl : x.free.length ≤ 1000000) :
    ACalls Try.prog 39 [ExtsV x] h b 1 (fun r h' => r = .one (.win b 0 0 sz sz) ∧ h' = upd h b ⟨0, bitsC (bitB x) sz⟩) := by
  refine ACalls.enter Try.func39 rfl (by simp [Try.ntmps39]) (fun ι w hn H => ?_)
  have hlow := H.lowCells
  obtain ⟨hc0, hc1, hc2, hc3⟩ := chk_iff.1 hc
  unfold ExtsV
  refine AWP.seqReg (by kernel_rfl) (fun E K hE hK => ?_); simp -implicitDefEqProofs only [go_sem, ↓reduceIte, Nat.reduceEqDiff, Nat.reduceAdd, Nat.reduceMul, Nat.reduceLT, Nat.reduceLeDiff, reduceCtorEq, Int.toNat_natCast]; refine hK _ _ _ ?_; clear hE hK K E
  refine AWP.seqReg (by kernel_rfl) (fun E K hE hK => ?_); simp -implicitDefEqProofs only [go_sem, ↓reduceIte, Nat.reduceEqDiff, Nat.reduceAdd, Nat.reduceMul, Nat.reduceLT, Nat.reduceLeDiff, reduceCtorEq, Int.toNat_natCast, hsz]
  refine MkR.of ?_
  refine MkK.make (e := 4) (sz := 1) (bytes := 1) ty_slE_61 ty_tsz_4 ty_tzero_4 rfl ty_tby_4 (Nat.le_refl _) (by omega) (by omega) ?_
  rw [show repl ([Value.bool false].map fun v => Cell.p (.v v)) sz = bitsC (takB x 0) sz from bitsC_repl sz]
  simp -implicitDefEqProofs only [go_sem, ↓reduceIte, Nat.reduceEqDiff, Nat.reduceAdd, Nat.reduceMul, Nat.reduceLT, Nat.reduceLeDiff, reduceCtorEq, Int.toNat_natCast]
  refine hK _ _ _ ?_; clear hE hK K E
  refine AWP.seq ?_
  refine AWP.seqReg (by kernel_rfl) (fun E K hE hK => ?_); simp -implicitDefEqProofs only [go_sem, ↓reduceIte, Nat.reduceEqDiff, Nat.reduceAdd, Nat.reduceMul, Nat.reduceLT, Nat.reduceLeDiff, reduceCtorEq, Int.toNat_natCast]; refine hK _ _ _ ?_; clear hE hK K E
  refine AWP.block ?_
  refine AWP.loopUp 2 x.free.length (bitI x sz h b) 0 (Nat.zero_le _) rfl ⟨by (first | (simp -implicitDefEqProofs only [go_sem, ↓reduceIte, Nat.reduceEqDiff, Nat.reduceAdd, Nat.reduceMul, Nat.reduceLT, Nat.reduceLeDiff, reduceCtorEq, Int.toNat_natCast, encX, hsz]; done) | (simp -implicitDefEqProofs only [go_sem, ↓reduceIte, Nat.reduceEqDiff, Nat.reduceAdd, Nat.reduceMul, Nat.reduceLT, Nat.reduceLeDiff, reduceCtorEq, Int.toNat_natCast, encX, hsz]; rfl) | rfl), by (first | (simp -implicitDefEqProofs only [go_sem, ↓reduceIte, Nat.reduceEqDiff, Nat.reduceAdd, Nat.reduceMul, Nat.reduceLT, Nat.reduceLeDiff, reduceCtorEq, Int.toNat_natCast]; done) | (simp -implicitDefEqProofs only [go_sem, ↓reduceIte, Nat.reduceEqDiff, Nat.reduceAdd, Nat.reduceMul, Nat.reduceLT, Nat.reduceLeDiff, reduceCtorEq, Int.toNat_natCast]; rfl) | rfl), (fun id (hid : id < b) => by simp -implicitDefEqProofs only [go_sem, ↓reduceIte, Nat.reduceEqDiff, Nat.reduceAdd, Nat.reduceMul, Nat.reduceLT, Nat.reduceLeDiff, reduceCtorEq, Int.toNat_natCast, show ¬ id = b by omega, show ¬ id = b + 1 by omega]), by simp -implicitDefEqProofs only [go_sem, ↓reduceIte, Nat.reduceEqDiff, Nat.reduceAdd, Nat.reduceMul, Nat.reduceLT, Nat.reduceLeDiff, reduceCtorEq, Int.toNat_natCast], by simp -implicitDefEqProofs only [go_sem, ↓reduceIte, Nat.reduceEqDiff, Nat.reduceAdd, Nat.reduceMul, Nat.reduceLT, Nat.reduceLeDiff, reduceCtorEq, Int.toNat_natCast], by simp -implicitDefEqProofs only [go_sem, ↓reduceIte, Nat.reduceEqDiff, Nat.reduceAdd, Nat.reduceMul, Nat.reduceLT, Nat.reduceLeDiff, reduceCtorEq, Int.toNat_natCast], by simp -implicitDefEqProofs only [go_sem, ↓reduceIte, Nat.reduceEqDiff, Nat.reduceAdd, Nat.reduceMul, Nat.reduceLT, Nat.reduceLeDiff, reduceCtorEq, Int.toNat_natCast, List.length_map], by (first | (simp -implicitDefEqProofs only [go_sem, ↓reduceIte, Nat.reduceEqDiff, Nat.reduceAdd, Nat.reduceMul, Nat.reduceLT, Nat.reduceLeDiff, reduceCtorEq, Int.toNat_natCast]; done) | (simp -implicitDefEqProofs only [go_sem, ↓reduceIte, Nat.reduceEqDiff, Nat.reduceAdd, Nat.reduceMul, Nat.reduceLT, Nat.reduceLeDiff, reduceCtorEq, Int.toNat_natCast]; rfl) | rfl)⟩ ?_
  rintro i ⟨t, hh, n⟩ hi ⟨hb, hb1, ho, e1, e3, e11, e12, e13⟩ hn1
  simp only at hb hb1 ho e1 e3 e11 e12 e13 hn1
  subst hn1
  refine AWP.seqReg (by kernel_rfl) (fun E K hE hK => ?_); simp -implicitDefEqProofs only [go_sem, ↓reduceIte, Nat.reduceEqDiff, Nat.reduceAdd, Nat.reduceMul, Nat.reduceLT, Nat.reduceLeDiff, reduceCtorEq, Int.toNat_natCast, e12, e13]; refine hK _ _ _ ?_; clear hE hK K E
  by_cases hlt : (i : Int) < x.free.length
  case neg =>
    refine AWP.seq ?_
    refine AWP.ifF (by simp -implicitDefEqProofs only [go_sem, ↓reduceIte, Nat.reduceEqDiff, Nat.reduceAdd, Nat.reduceMul, Nat.reduceLT, Nat.reduceLeDiff, reduceCtorEq, Int.toNat_natCast, hlt]) ?_
    refine AWP.exit ?_
    simp -implicitDefEqProofs only [go_sem, ↓reduceIte, Nat.reduceEqDiff, Nat.reduceAdd, Nat.reduceMul, Nat.reduceLT, Nat.reduceLeDiff, reduceCtorEq, Int.toNat_natCast]
    refine AWP.seqReg (by kernel_rfl) (fun E K hE hK => ?_); simp -implicitDefEqProofs only [go_sem, ↓reduceIte, Nat.reduceEqDiff, Nat.reduceAdd, Nat.reduceMul, Nat.reduceLT, Nat.reduceLeDiff, reduceCtorEq, Int.toNat_natCast, e3]; refine hK _ _ _ ?_; clear hE hK K E
    refine AWP.ret ?_
    simp -implicitDefEqProofs only [go_sem, ↓reduceIte, Nat.reduceEqDiff, Nat.reduceAdd, Nat.reduceMul, Nat.reduceLT, Nat.reduceLeDiff, reduceCtorEq, Int.toNat_natCast]
    have : i = x.free.length := by omega
    subst this
    have hbb : bitsC (takB x x.free.length) sz = bitsC (bitB x) sz := bitsC_congr fun p _ => by unfold takB bitB; rw [List.take_length]
    rw [hbb] at hb1
    exact Ends.row hn H ho (id := b + 1) (Nat.le_add_right _ _) (by simp -implicitDefEqProofs only [go_sem, ↓reduceIte, Nat.reduceEqDiff, Nat.reduceAdd, Nat.reduceMul, Nat.reduceLT, Nat.reduceLeDiff, reduceCtorEq, Int.toNat_natCast, hb1]) (bitsC_low _ _ _) (r0 := .one (.win (b + 1) 0 0 sz sz))
      (by rw [show Try.f39.results.toList = [.tmp 2] from rfl]; simp -implicitDefEqProofs only [go_sem, ↓reduceIte, Nat.reduceEqDiff, Nat.reduceAdd, Nat.reduceMul, Nat.reduceLT, Nat.reduceLeDiff, reduceCtorEq, Int.toNat_natCast]) (renV.win0 _ _ _ _) ⟨rfl, rfl⟩
  have hi2 : i < x.free.length := by omega
  have hge := getD_map_encE x.free i hi2
  have hsi := hc2.mem x.free[i] (List.getElem_mem hi2)
  have hse := hc3 x.free[i] (List.getElem_mem hi2)
  have htq : x.free.take (i + 1) = x.free.take i ++ [x.free[i]] := by rw [List.take_add_one, List.getElem?_eq_getElem hi2]; rfl
  generalize x.free[i] = s at hge hsi hse htq
  refine AWP.seq ?_
  refine AWP.ifT (by simp -implicitDefEqProofs only [go_sem, ↓reduceIte, Nat.reduceEqDiff, Nat.reduceAdd, Nat.reduceMul, Nat.reduceLT, Nat.reduceLeDiff, reduceCtorEq, Int.toNat_natCast, hlt]) ?_
  refine AWP.skip ?_
  simp -implicitDefEqProofs only [go_sem, ↓reduceIte, Nat.reduceEqDiff, Nat.reduceAdd, Nat.reduceMul, Nat.reduceLT, Nat.reduceLeDiff, reduceCtorEq, Int.toNat_natCast]
  refine AWP.seq ?_
  refine AWP.block ?_
  refine AWP.seqReg (by kernel_rfl) (fun E K hE hK => ?_); simp -implicitDefEqProofs only [go_sem, ↓reduceIte, Nat.reduceEqDiff, Nat.reduceAdd, Nat.reduceMul, Nat.reduceLT, Nat.reduceLeDiff, reduceCtorEq, Int.toNat_natCast, e11, e13, hge, encE, List.length_map]
  refine ⟨⟨by omega, by omega⟩, ?_⟩
  refine hK _ _ _ ?_; clear hE hK K E
  refine AWP.seqReg (by kernel_rfl) (fun E K hE hK => ?_); simp -implicitDefEqProofs only [go_sem, ↓reduceIte, Nat.reduceEqDiff, Nat.reduceAdd, Nat.reduceMul, Nat.reduceLT, Nat.reduceLeDiff, reduceCtorEq, Int.toNat_natCast]; refine hK _ _ _ ?_; clear hE hK K E
  obtain ⟨sl, hsl⟩ : ∃ sl : Nat, s.len = (sl : Int) := ⟨s.len.toNat, by omega⟩
  refine AWP.block ?_
  have hB0 : bitsC (takB x i) sz = bitsC (tajB x i s 0) sz := bitsC_congr fun p _ => by
    unfold tajB; rw [decide_eq_false (by omega), Bool.or_false]
  have hB1 : bitsC (tajB x i s sl) sz = bitsC (takB x (i + 1)) sz := bitsC_congr fun p _ => by
    unfold tajB takB
    rw [htq, cnt_app, cnt_cons, cnt_nil, ← Bool.decide_or]
    refine decide_eq_decide.2 ?_
    unfold ind
    split <;> omega
  rw [hB0] at hb1
  refine AWP.loopUp 3 sl (bitJ x sz h b i s) 0 (Nat.zero_le _) rfl ⟨by (first | (simp -implicitDefEqProofs only [go_sem, ↓reduceIte, Nat.reduceEqDiff, Nat.reduceAdd, Nat.reduceMul, Nat.reduceLT, Nat.reduceLeDiff, reduceCtorEq, Int.toNat_natCast, hb]; done) | (simp -implicitDefEqProofs only [go_sem, ↓reduceIte, Nat.reduceEqDiff, Nat.reduceAdd, Nat.reduceMul, Nat.reduceLT, Nat.reduceLeDiff, reduceCtorEq, Int.toNat_natCast, hb]; rfl) | rfl), by (first | (simp -implicitDefEqProofs only [go_sem, ↓reduceIte, Nat.reduceEqDiff, Nat.reduceAdd, Nat.reduceMul, Nat.reduceLT, Nat.reduceLeDiff, reduceCtorEq, Int.toNat_natCast, hb1]; done) | (simp -implicitDefEqProofs only [go_sem, ↓reduceIte, Nat.reduceEqDiff, Nat.reduceAdd, Nat.reduceMul, Nat.reduceLT, Nat.reduceLeDiff, reduceCtorEq, Int.toNat_natCast, hb1]; rfl) | rfl), by (first | (simp -implicitDefEqProofs only [go_sem, ↓reduceIte, Nat.reduceEqDiff, Nat.reduceAdd, Nat.reduceMul, Nat.reduceLT, Nat.reduceLeDiff, reduceCtorEq, Int.toNat_natCast]; done) | (simp -implicitDefEqProofs only [go_sem, ↓reduceIte, Nat.reduceEqDiff, Nat.reduceAdd, Nat.reduceMul, Nat.reduceLT, Nat.reduceLeDiff, reduceCtorEq, Int.toNat_natCast]; rfl) | rfl), (fun id (hid : id < b) => by simp -implicitDefEqProofs only [go_sem, ↓reduceIte, Nat.reduceEqDiff, Nat.reduceAdd, Nat.reduceMul, Nat.reduceLT, Nat.reduceLeDiff, reduceCtorEq, Int.toNat_natCast, show ¬ id = b by omega, show ¬ id = b + 1 by omega, show ¬ id = b + 2 by omega, ho id hid]), by simp -implicitDefEqProofs only [go_sem, ↓reduceIte, Nat.reduceEqDiff, Nat.reduceAdd, Nat.reduceMul, Nat.reduceLT, Nat.reduceLeDiff, reduceCtorEq, Int.toNat_natCast, e1], by simp -implicitDefEqProofs only [go_sem, ↓reduceIte, Nat.reduceEqDiff, Nat.reduceAdd, Nat.reduceMul, Nat.reduceLT, Nat.reduceLeDiff, reduceCtorEq, Int.toNat_natCast, e3], by simp -implicitDefEqProofs only [go_sem, ↓reduceIte, Nat.reduceEqDiff, Nat.reduceAdd, Nat.reduceMul, Nat.reduceLT, Nat.reduceLeDiff, reduceCtorEq, Int.toNat_natCast], by simp -implicitDefEqProofs only [go_sem, ↓reduceIte, Nat.reduceEqDiff, Nat.reduceAdd, Nat.reduceMul, Nat.reduceLT, Nat.reduceLeDiff, reduceCtorEq, Int.toNat_natCast, e11], by simp -implicitDefEqProofs only [go_sem, ↓reduceIte, Nat.reduceEqDiff, Nat.reduceAdd, Nat.reduceMul, Nat.reduceLT, Nat.reduceLeDiff, reduceCtorEq, Int.toNat_natCast, e12], by simp -implicitDefEqProofs only [go_sem, ↓reduceIte, Nat.reduceEqDiff, Nat.reduceAdd, Nat.reduceMul, Nat.reduceLT, Nat.reduceLeDiff, reduceCtorEq, Int.toNat_natCast, e13], by simp -implicitDefEqProofs only [go_sem, ↓reduceIte, Nat.reduceEqDiff, Nat.reduceAdd, Nat.reduceMul, Nat.reduceLT, Nat.reduceLeDiff, reduceCtorEq, Int.toNat_natCast], by (first | (simp -implicitDefEqProofs only [go_sem, ↓reduceIte, Nat.reduceEqDiff, Nat.reduceAdd, Nat.reduceMul, Nat.reduceLT, Nat.reduceLeDiff, reduceCtorEq, Int.toNat_natCast]; done) | (simp -implicitDefEqProofs only [go_sem, ↓reduceIte, Nat.reduceEqDiff, Nat.reduceAdd, Nat.reduceMul, Nat.reduceLT, Nat.reduceLeDiff, reduceCtorEq, Int.toNat_natCast]; rfl) | rfl)⟩ ?_
  clear hb hb1 ho e1 e3 e11 e12 e13
  clear t hh
  rintro j ⟨t, hh, m⟩ hj ⟨hb, hb1, hb2, ho, e1, e3, e5, e11, e12, e13, e18, e19⟩ hm
  simp only at hb hb1 hb2 ho e1 e3 e5 e11 e12 e13 e18 e19 hm
  subst hm
  refine AWP.seqReg (by kernel_rfl) (fun E K hE hK => ?_); simp -implicitDefEqProofs only [go_sem, ↓reduceIte, Nat.reduceEqDiff, Nat.reduceAdd, Nat.reduceMul, Nat.reduceLT, Nat.reduceLeDiff, reduceCtorEq, Int.toNat_natCast, e18, e19, hsl]; refine hK _ _ _ ?_; clear hE hK K E
  by_cases hlt3 : (j : Int) < (sl : Int)
  case neg =>
    have hjs : j = sl := by omega
    subst hjs
    refine AWP.seq ?_
    refine AWP.ifF (by simp -implicitDefEqProofs only [go_sem, ↓reduceIte, Nat.reduceEqDiff, Nat.reduceAdd, Nat.reduceMul, Nat.reduceLT, Nat.reduceLeDiff, reduceCtorEq, Int.toNat_natCast, hlt3]) ?_
    refine AWP.exit ?_
    simp -implicitDefEqProofs only [go_sem, ↓reduceIte, Nat.reduceEqDiff, Nat.reduceAdd, Nat.reduceMul, Nat.reduceLT, Nat.reduceLeDiff, reduceCtorEq, Int.toNat_natCast]
    refine AWP.reg (by kernel_rfl) (fun E K hE hK => ?_); simp -implicitDefEqProofs only [go_sem, ↓reduceIte, Nat.reduceEqDiff, Nat.reduceAdd, Nat.reduceMul, Nat.reduceLT, Nat.reduceLeDiff, reduceCtorEq, Int.toNat_natCast, e13]
    refine hK _ _ _ ?_; clear hE hK K E
    rw [hB1] at hb1
    refine ⟨(by decide : 2 ≤ 3), hi2, cutH_same (Nat.lt_add_of_pos_right (by decide)) (by (first | (simp -implicitDefEqProofs only [go_sem, ↓reduceIte, Nat.reduceEqDiff, Nat.reduceAdd, Nat.reduceMul, Nat.reduceLT, Nat.reduceLeDiff, reduceCtorEq, Int.toNat_natCast, hb]; done) | (simp -implicitDefEqProofs only [go_sem, ↓reduceIte, Nat.reduceEqDiff, Nat.reduceAdd, Nat.reduceMul, Nat.reduceLT, Nat.reduceLeDiff, reduceCtorEq, Int.toNat_natCast, hb]; rfl) | rfl)) rfl, cutH_same (Nat.add_lt_add_left (by decide) _) (by (first | (simp -implicitDefEqProofs only [go_sem, ↓reduceIte, Nat.reduceEqDiff, Nat.reduceAdd, Nat.reduceMul, Nat.reduceLT, Nat.reduceLeDiff, reduceCtorEq, Int.toNat_natCast, hb1]; done) | (simp -implicitDefEqProofs only [go_sem, ↓reduceIte, Nat.reduceEqDiff, Nat.reduceAdd, Nat.reduceMul, Nat.reduceLT, Nat.reduceLeDiff, reduceCtorEq, Int.toNat_natCast, hb1]; rfl) | rfl)) (bitsC_low _ _ _), cutH_outer (Nat.le_add_right _ _) ho hlow, by simp -implicitDefEqProofs only [go_sem, ↓reduceIte, Nat.reduceEqDiff, Nat.reduceAdd, Nat.reduceMul, Nat.reduceLT, Nat.reduceLeDiff, reduceCtorEq, Int.toNat_natCast, e1]; exact cutV_ptr (Nat.lt_add_of_pos_right (by decide)), by simp -implicitDefEqProofs only [go_sem, ↓reduceIte, Nat.reduceEqDiff, Nat.reduceAdd, Nat.reduceMul, Nat.reduceLT, Nat.reduceLeDiff, reduceCtorEq, Int.toNat_natCast, e3]; exact cutV_win (Nat.add_lt_add_left (by decide) _), by simp -implicitDefEqProofs only [go_sem, ↓reduceIte, Nat.reduceEqDiff, Nat.reduceAdd, Nat.reduceMul, Nat.reduceLT, Nat.reduceLeDiff, reduceCtorEq, Int.toNat_natCast, e11], by simp -implicitDefEqProofs only [go_sem, ↓reduceIte, Nat.reduceEqDiff, Nat.reduceAdd, Nat.reduceMul, Nat.reduceLT, Nat.reduceLeDiff, reduceCtorEq, Int.toNat_natCast, e12], ?_⟩
    simp -implicitDefEqProofs only [go_sem, ↓reduceIte, Nat.reduceEqDiff, Nat.reduceAdd, Nat.reduceMul, Nat.reduceLT, Nat.reduceLeDiff, reduceCtorEq, Int.toNat_natCast]; rw [wrap_i64 (by omega) (by omega)]; rfl
  refine AWP.seq ?_
  refine AWP.ifT (by simp -implicitDefEqProofs only [go_sem, ↓reduceIte, Nat.reduceEqDiff, Nat.reduceAdd, Nat.reduceMul, Nat.reduceLT, Nat.reduceLeDiff, reduceCtorEq, Int.toNat_natCast, hlt3]) ?_
  refine AWP.skip ?_
  simp -implicitDefEqProofs only [go_sem, ↓reduceIte, Nat.reduceEqDiff, Nat.reduceAdd, Nat.reduceMul, Nat.reduceLT, Nat.reduceLeDiff, reduceCtorEq, Int.toNat_natCast]
  refine AWP.seq ?_
  refine AWP.block ?_
  refine AWP.seqReg (by kernel_rfl) (fun E K hE hK => ?_); simp -implicitDefEqProofs only [go_sem, ↓reduceIte, Nat.reduceEqDiff, Nat.reduceAdd, Nat.reduceMul, Nat.reduceLT, Nat.reduceLeDiff, reduceCtorEq, Int.toNat_natCast, e19]; refine hK _ _ _ ?_; clear hE hK K E
  have ha1 : IntKind.i64.wrap (s.at_ + (j : Int)) = s.at_ + (j : Int) := wrap_i64 (by omega) (by omega)
  obtain ⟨k, hk⟩ : ∃ k : Nat, s.at_ + (j : Int) = (k : Int) := ⟨(s.at_ + (j : Int)).toNat, by omega⟩
  have hkz : k < sz := by omega
  have hkw : IntKind.i64.wrap (k : Int) = (k : Int) := wrap_i64 (by omega) (by omega)
  have hset := bitsC_set (f := tajB x i s j) (g := tajB x i s (j + 1)) hkz true (by unfold tajB; rw [decide_eq_true (by omega), Bool.or_true]) (fun p _ hp => by
    unfold tajB
    congr 1
    exact decide_eq_decide.2 (by omega))
  have hBl := bitsC_len (tajB x i s j) sz
  generalize bitsC (tajB x i s j) sz = B at hb1 hset hBl
  refine AWP.reg (by kernel_rfl) (fun E K hE hK => ?_); simp -implicitDefEqProofs only [go_sem, ↓reduceIte, Nat.reduceEqDiff, Nat.reduceAdd, Nat.reduceMul, Nat.reduceLT, Nat.reduceLeDiff, reduceCtorEq, Int.toNat_natCast, e3, e5, hb2, encE, ha1, hk, hkw, hb1, hBl, Nat.mul_one]
  refine ⟨⟨by omega, by omega⟩, by omega, ?_⟩
  rw [hset]
  refine hK _ _ _ ?_; clear hE hK K E
  refine AWP.reg (by kernel_rfl) (fun E K hE hK => ?_); simp -implicitDefEqProofs only [go_sem, ↓reduceIte, Nat.reduceEqDiff, Nat.reduceAdd, Nat.reduceMul, Nat.reduceLT, Nat.reduceLeDiff, reduceCtorEq, Int.toNat_natCast, e19]
  refine hK _ _ _ ?_; clear hE hK K E
  refine ⟨(by decide : 3 ≤ 3), by omega, cutH_same (Nat.lt_add_of_pos_right (by decide)) (by (first | (simp -implicitDefEqProofs only [go_sem, ↓reduceIte, Nat.reduceEqDiff, Nat.reduceAdd, Nat.reduceMul, Nat.reduceLT, Nat.reduceLeDiff, reduceCtorEq, Int.toNat_natCast, hb]; done) | (simp -implicitDefEqProofs only [go_sem, ↓reduceIte, Nat.reduceEqDiff, Nat.reduceAdd, Nat.reduceMul, Nat.reduceLT, Nat.reduceLeDiff, reduceCtorEq, Int.toNat_natCast, hb]; rfl) | rfl)) rfl, cutH_same (Nat.add_lt_add_left (by decide) _) (by (first | (simp -implicitDefEqProofs only [go_sem, ↓reduceIte, Nat.reduceEqDiff, Nat.reduceAdd, Nat.reduceMul, Nat.reduceLT, Nat.reduceLeDiff, reduceCtorEq, Int.toNat_natCast]; done) | (simp -implicitDefEqProofs only [go_sem, ↓reduceIte, Nat.reduceEqDiff, Nat.reduceAdd, Nat.reduceMul, Nat.reduceLT, Nat.reduceLeDiff, reduceCtorEq, Int.toNat_natCast]; rfl) | rfl)) (bitsC_low _ _ _), cutH_same (Nat.add_lt_add_left (by decide) _) (by (first | (simp -implicitDefEqProofs only [go_sem, ↓reduceIte, Nat.reduceEqDiff, Nat.reduceAdd, Nat.reduceMul, Nat.reduceLT, Nat.reduceLeDiff, reduceCtorEq, Int.toNat_natCast, hb2]; done) | (simp -implicitDefEqProofs only [go_sem, ↓reduceIte, Nat.reduceEqDiff, Nat.reduceAdd, Nat.reduceMul, Nat.reduceLT, Nat.reduceLeDiff, reduceCtorEq, Int.toNat_natCast, hb2]; rfl) | rfl)) rfl, cutH_outer (Nat.le_add_right _ _) ((fun id (hid : id < b) => by simp -implicitDefEqProofs only [go_sem, ↓reduceIte, Nat.reduceEqDiff, Nat.reduceAdd, Nat.reduceMul, Nat.reduceLT, Nat.reduceLeDiff, reduceCtorEq, Int.toNat_natCast, show ¬ id = b by omega, show ¬ id = b + 1 by omega, ho id hid])) hlow,
    by simp -implicitDefEqProofs only [go_sem, ↓reduceIte, Nat.reduceEqDiff, Nat.reduceAdd, Nat.reduceMul, Nat.reduceLT, Nat.reduceLeDiff, reduceCtorEq, Int.toNat_natCast, e1]; exact cutV_ptr (Nat.lt_add_of_pos_right (by decide)), by simp -implicitDefEqProofs only [go_sem, ↓reduceIte, Nat.reduceEqDiff, Nat.reduceAdd, Nat.reduceMul, Nat.reduceLT, Nat.reduceLeDiff, reduceCtorEq, Int.toNat_natCast, e3]; exact cutV_win (Nat.add_lt_add_left (by decide) _), by simp -implicitDefEqProofs only [go_sem, ↓reduceIte, Nat.reduceEqDiff, Nat.reduceAdd, Nat.reduceMul, Nat.reduceLT, Nat.reduceLeDiff, reduceCtorEq, Int.toNat_natCast, e5]; exact cutV_ptr (Nat.add_lt_add_left (by decide) _), by simp -implicitDefEqProofs only [go_sem, ↓reduceIte, Nat.reduceEqDiff, Nat.reduceAdd, Nat.reduceMul, Nat.reduceLT, Nat.reduceLeDiff, reduceCtorEq, Int.toNat_natCast, e11], by simp -implicitDefEqProofs only [go_sem, ↓reduceIte, Nat.reduceEqDiff, Nat.reduceAdd, Nat.reduceMul, Nat.reduceLT, Nat.reduceLeDiff, reduceCtorEq, Int.toNat_natCast, e12], by simp -implicitDefEqProofs only [go_sem, ↓reduceIte, Nat.reduceEqDiff, Nat.reduceAdd, Nat.reduceMul, Nat.reduceLT, Nat.reduceLeDiff, reduceCtorEq, Int.toNat_natCast, e13], by simp -implicitDefEqProofs only [go_sem, ↓reduceIte, Nat.reduceEqDiff, Nat.reduceAdd, Nat.reduceMul, Nat.reduceLT, Nat.reduceLeDiff, reduceCtorEq, Int.toNat_natCast, e18], ?_⟩
  simp -implicitDefEqProofs only [go_sem, ↓reduceIte, Nat.reduceEqDiff, Nat.reduceAdd, Nat.reduceMul, Nat.reduceLT, Nat.reduceLeDiff, reduceCtorEq, Int.toNat_natCast]; rw [wrap_i64 (by omega) (by omega)]; rfl

end Go.Proofs.Ytdannmfdenlikaa
