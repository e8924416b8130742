/-
  Walks of package extent: Take.
-/
import Derived.Test.YtdannmfdenlikaaExtW4
import Derived.Test.YtdannmfdenlikaaSlEnds
namespace Go.Proofs.Ytdannmfdenlikaa
set_option linter.unusedSimpArgs false
set_option linter.unusedVariables false
set_option linter.unnecessarySimpa false
open Go Am
set_option maxRecDepth 100000

/-- a result whose extents lie in an own row -/
def ownR (x : Exts) (e : Int) (mk : AV → AV) (h : Heap) (b : Nat) (r : AV) (h' : Heap) : Prop :=
  (e = 0 ∧ ∃ ver cap T, x.free.length ≤ cap ∧ cap * 2 = x.free.length * 2 + T.length ∧ lowCs 0 T = true ∧ r = mk (.agg [.p (.v (.int .i64 x.size)), .win b ver 0 x.free.length cap]) ∧ h' = upd h b (rowB ver (x.free.map encE) T)) ∨
  (e ≠ 0 ∧ r = mk (.agg [.p (.v (.int .i64 0)), .p (.v (.slice none 0 0))]) ∧ h' = h)

theorem row_set (l : List Ext) (T : List Cell) (i : Nat) (hi : i < l.length) (f : Ext) :
    List.take (i * 2) (List.map Cell.p (l.map encE).flatten ++ T) ++ .p (.v (.int .i64 f.at_)) :: .p (.v (.int .i64 f.len)) :: List.drop (i * 2 + 2) (List.map Cell.p (l.map encE).flatten ++ T) = ((l.set i f).map encE).flatten.map .p ++ T := by
  have h := spl_row (es := l.map encE) (fs := [encE f]) (i := i) T (okEs_ext l) (okEs_ext [f]) (by simp; omega)
  have e : l.set i f = l.take i ++ (f :: l.drop (i + 1)) := by rw [List.set_eq_take_append_cons_drop, if_pos hi]
  rw [e]
  simp only [spl, encE, List.flatten_cons, List.flatten_nil, List.append_nil, List.map_cons, List.map_nil, List.length_cons, List.length_nil, List.map_append, List.map_take, List.map_drop, List.flatten_append, List.append_assoc, List.cons_append, List.nil_append] at h ⊢
  exact h

theorem take_ok (x : Exts) (n : Int) (h : Heap) (b : Nat) (hl : x.free.length ≤ 1000000) :
    ACalls Try.prog 12 [ExtsV x, IntV n] h b 1 (ownR (takeX x n).2.1 (takeX x n).2.2 (fun v => .tup [ExtV (takeX x n).1, v, IntV (takeX x n).2.2]) h b) := by
  refine ACalls.enter Try.func12 rfl (by simp [Try.ntmps12]) (fun ι w hn H => ?_)
  have hlow := H.lowCells
  unfold ExtsV
  refine AWP.seqReg (by kernel_rfl) (fun E K hE hK => ?_); simp -implicitDefEqProofs only [go_sem, ↓reduceIte, Nat.reduceEqDiff, Nat.reduceAdd, Nat.reduceMul, Nat.reduceLT, Nat.reduceLeDiff, reduceCtorEq, Int.toNat_natCast]; refine hK _ _ _ ?_; clear hE hK K E
  refine AWP.seq ?_
  refine AWP.seqReg (by kernel_rfl) (fun E K hE hK => ?_); simp -implicitDefEqProofs only [go_sem, ↓reduceIte, Nat.reduceEqDiff, Nat.reduceAdd, Nat.reduceMul, Nat.reduceLT, Nat.reduceLeDiff, reduceCtorEq, Int.toNat_natCast]
  refine CallR.use (chk_ok x _ _ (by omega)) body_14 ?_
  rintro _ _ ⟨rfl, rfl⟩
  simp -implicitDefEqProofs only [go_sem, ↓reduceIte, Nat.reduceEqDiff, Nat.reduceAdd, Nat.reduceMul, Nat.reduceLT, Nat.reduceLeDiff, reduceCtorEq, Int.toNat_natCast]
  refine hK _ _ _ ?_; clear hE hK K E
  have bad : ∀ (t : Nat → AV) (hh : Heap) (m : Nat) (e : Int), (takeX x n) = (⟨0, 0⟩, ⟨0, []⟩, e) → e ≠ 0 → t 4 = .one (.ptr (b + 2) 0 0) → t 5 = .one (.ptr (b + 3) 0 0) → t 6 = IntV e → hh (b + 2) = some ⟨0, [.p (.v (.int .i64 0)), .p (.v (.int .i64 0))]⟩ →
      hh (b + 3) = some ⟨0, [.p (.v (.int .i64 0)), .p (.v (.slice none 0 0))]⟩ → (∀ id, id < b → hh id = h id) →
      Am.Ends Try.prog ⟨Try.f12.ntmps, b, ι, h, w⟩ Try.f12 1 (ownR (takeX x n).2.1 (takeX x n).2.2 (fun v => .tup [ExtV (takeX x n).1, v, IntV (takeX x n).2.2]) h b) ⟨t, hh, m⟩ := by
    intro t hh m e he hne e4 e5 e6 h4 h5 ho
    rw [he]
    refine Ends.le (m := 0) (Nat.zero_le _) (Ends.pure hn H ho (r0 := .tup [ExtV ⟨0, 0⟩, .agg [.p (.v (.int .i64 0)), .p (.v (.slice none 0 0))], IntV e]) (by rw [show Try.f12.results.toList = [.cell 4 33, .cell 5 26, .tmp 6] from rfl]; simp -implicitDefEqProofs only [go_sem, ↓reduceIte, Nat.reduceEqDiff, Nat.reduceAdd, Nat.reduceMul, Nat.reduceLT, Nat.reduceLeDiff, reduceCtorEq, Int.toNat_natCast, e4, e5, e6, h4, h5]; rfl)
      (frz_tup3 (frz_agg2 (frz_p _) (frz_p _)) (frz_agg2 (frz_p _) (frz_p _)) (.v _)) (.inr ⟨hne, rfl, rfl⟩))
  by_cases hbad : chk x ≠ 0 ∨ n < 1
  · have hT : takeX x n = (⟨0, 0⟩, ⟨0, []⟩, 1) := by unfold takeX; rw [if_pos hbad]
    refine AWP.seqReg (by kernel_rfl) (fun E K hE hK => ?_); simp -implicitDefEqProofs only [go_sem, ↓reduceIte, Nat.reduceEqDiff, Nat.reduceAdd, Nat.reduceMul, Nat.reduceLT, Nat.reduceLeDiff, reduceCtorEq, Int.toNat_natCast]
    refine ⟨fun g => ?_, fun g => ?_⟩
    · refine hK _ _ _ ?_; clear hE hK K E
      refine AWP.ifT (by simp -implicitDefEqProofs only [go_sem, ↓reduceIte, Nat.reduceEqDiff, Nat.reduceAdd, Nat.reduceMul, Nat.reduceLT, Nat.reduceLeDiff, reduceCtorEq, Int.toNat_natCast]) ?_
      refine AWP.seqReg (by kernel_rfl) (fun E K hE hK => ?_); simp -implicitDefEqProofs only [go_sem, ↓reduceIte, Nat.reduceEqDiff, Nat.reduceAdd, Nat.reduceMul, Nat.reduceLT, Nat.reduceLeDiff, reduceCtorEq, Int.toNat_natCast]; refine hK _ _ _ ?_; clear hE hK K E
      refine AWP.ret ?_
      simp -implicitDefEqProofs only [go_sem, ↓reduceIte, Nat.reduceEqDiff, Nat.reduceAdd, Nat.reduceMul, Nat.reduceLT, Nat.reduceLeDiff, reduceCtorEq, Int.toNat_natCast]
      exact bad _ _ _ 1 hT (by decide) (by simp -implicitDefEqProofs only [go_sem, ↓reduceIte, Nat.reduceEqDiff, Nat.reduceAdd, Nat.reduceMul, Nat.reduceLT, Nat.reduceLeDiff, reduceCtorEq, Int.toNat_natCast]) (by simp -implicitDefEqProofs only [go_sem, ↓reduceIte, Nat.reduceEqDiff, Nat.reduceAdd, Nat.reduceMul, Nat.reduceLT, Nat.reduceLeDiff, reduceCtorEq, Int.toNat_natCast]) (by simp -implicitDefEqProofs only [go_sem, ↓reduceIte, Nat.reduceEqDiff, Nat.reduceAdd, Nat.reduceMul, Nat.reduceLT, Nat.reduceLeDiff, reduceCtorEq, Int.toNat_natCast]) (by simp -implicitDefEqProofs only [go_sem, ↓reduceIte, Nat.reduceEqDiff, Nat.reduceAdd, Nat.reduceMul, Nat.reduceLT, Nat.reduceLeDiff, reduceCtorEq, Int.toNat_natCast]) (by simp -implicitDefEqProofs only [go_sem, ↓reduceIte, Nat.reduceEqDiff, Nat.reduceAdd, Nat.reduceMul, Nat.reduceLT, Nat.reduceLeDiff, reduceCtorEq, Int.toNat_natCast]) (by intro id hid; simp -implicitDefEqProofs only [go_sem, ↓reduceIte, Nat.reduceEqDiff, Nat.reduceAdd, Nat.reduceMul, Nat.reduceLT, Nat.reduceLeDiff, reduceCtorEq, Int.toNat_natCast, show ¬ id = b by omega, show ¬ id = b + 1 by omega, show ¬ id = b + 2 by omega, show ¬ id = b + 3 by omega])
    · have hn1 : n < 1 := by
        rcases hbad with h | h
        · exact absurd (by simpa using g) h
        · exact h
      refine hK _ _ _ ?_; clear hE hK K E
      refine AWP.ifT (by simp -implicitDefEqProofs only [go_sem, ↓reduceIte, Nat.reduceEqDiff, Nat.reduceAdd, Nat.reduceMul, Nat.reduceLT, Nat.reduceLeDiff, reduceCtorEq, Int.toNat_natCast, hn1]) ?_
      refine AWP.seqReg (by kernel_rfl) (fun E K hE hK => ?_); simp -implicitDefEqProofs only [go_sem, ↓reduceIte, Nat.reduceEqDiff, Nat.reduceAdd, Nat.reduceMul, Nat.reduceLT, Nat.reduceLeDiff, reduceCtorEq, Int.toNat_natCast]; refine hK _ _ _ ?_; clear hE hK K E
      refine AWP.ret ?_
      simp -implicitDefEqProofs only [go_sem, ↓reduceIte, Nat.reduceEqDiff, Nat.reduceAdd, Nat.reduceMul, Nat.reduceLT, Nat.reduceLeDiff, reduceCtorEq, Int.toNat_natCast]
      exact bad _ _ _ 1 hT (by decide) (by simp -implicitDefEqProofs only [go_sem, ↓reduceIte, Nat.reduceEqDiff, Nat.reduceAdd, Nat.reduceMul, Nat.reduceLT, Nat.reduceLeDiff, reduceCtorEq, Int.toNat_natCast]) (by simp -implicitDefEqProofs only [go_sem, ↓reduceIte, Nat.reduceEqDiff, Nat.reduceAdd, Nat.reduceMul, Nat.reduceLT, Nat.reduceLeDiff, reduceCtorEq, Int.toNat_natCast]) (by simp -implicitDefEqProofs only [go_sem, ↓reduceIte, Nat.reduceEqDiff, Nat.reduceAdd, Nat.reduceMul, Nat.reduceLT, Nat.reduceLeDiff, reduceCtorEq, Int.toNat_natCast]) (by simp -implicitDefEqProofs only [go_sem, ↓reduceIte, Nat.reduceEqDiff, Nat.reduceAdd, Nat.reduceMul, Nat.reduceLT, Nat.reduceLeDiff, reduceCtorEq, Int.toNat_natCast]) (by simp -implicitDefEqProofs only [go_sem, ↓reduceIte, Nat.reduceEqDiff, Nat.reduceAdd, Nat.reduceMul, Nat.reduceLT, Nat.reduceLeDiff, reduceCtorEq, Int.toNat_natCast]) (by intro id hid; simp -implicitDefEqProofs only [go_sem, ↓reduceIte, Nat.reduceEqDiff, Nat.reduceAdd, Nat.reduceMul, Nat.reduceLT, Nat.reduceLeDiff, reduceCtorEq, Int.toNat_natCast, show ¬ id = b by omega, show ¬ id = b + 1 by omega, show ¬ id = b + 2 by omega, show ¬ id = b + 3 by omega])
  have hc : chk x = 0 := by rcases Decidable.em (chk x = 0) with h | h; exact h; exact absurd (.inl h) hbad
  have hn1 : ¬ n < 1 := fun h => hbad (.inr h)
  refine AWP.seqReg (by kernel_rfl) (fun E K hE hK => ?_); simp -implicitDefEqProofs only [go_sem, ↓reduceIte, Nat.reduceEqDiff, Nat.reduceAdd, Nat.reduceMul, Nat.reduceLT, Nat.reduceLeDiff, reduceCtorEq, Int.toNat_natCast, hc, hn1]
  refine hK _ _ _ ?_; clear hE hK K E
  refine AWP.ifF (by simp -implicitDefEqProofs only [go_sem, ↓reduceIte, Nat.reduceEqDiff, Nat.reduceAdd, Nat.reduceMul, Nat.reduceLT, Nat.reduceLeDiff, reduceCtorEq, Int.toNat_natCast, hn1]) ?_
  refine AWP.skip ?_
  simp -implicitDefEqProofs only [go_sem, ↓reduceIte, Nat.reduceEqDiff, Nat.reduceAdd, Nat.reduceMul, Nat.reduceLT, Nat.reduceLeDiff, reduceCtorEq, Int.toNat_natCast]
  refine AWP.seqReg (by kernel_rfl) (fun E K hE hK => ?_); simp -implicitDefEqProofs only [go_sem, ↓reduceIte, Nat.reduceEqDiff, Nat.reduceAdd, Nat.reduceMul, Nat.reduceLT, Nat.reduceLeDiff, reduceCtorEq, Int.toNat_natCast]
  refine CallR.use (index_ext_ok 31 [.ptr (b + 1) 0 0] (fun s : Ext => decide (n ≤ s.len)) x.free _ _ body_31 (by simp [lowCs, lowC]) (by omega) (fun e _ => takeF_ok n e _ _ (b + 1) 0 (Nat.add_lt_add_left (by decide) b) (by simp -implicitDefEqProofs only [go_sem, ↓reduceIte, Nat.reduceEqDiff, Nat.reduceAdd, Nat.reduceMul, Nat.reduceLT, Nat.reduceLeDiff, reduceCtorEq, Int.toNat_natCast]))) body_26 ?_
  rintro _ _ ⟨rfl, rfl⟩
  simp -implicitDefEqProofs only [go_sem, ↓reduceIte, Nat.reduceEqDiff, Nat.reduceAdd, Nat.reduceMul, Nat.reduceLT, Nat.reduceLeDiff, reduceCtorEq, Int.toNat_natCast]
  refine hK _ _ _ ?_; clear hE hK K E
  refine AWP.seq ?_
  refine AWP.seqReg (by kernel_rfl) (fun E K hE hK => ?_); simp -implicitDefEqProofs only [go_sem, ↓reduceIte, Nat.reduceEqDiff, Nat.reduceAdd, Nat.reduceMul, Nat.reduceLT, Nat.reduceLeDiff, reduceCtorEq, Int.toNat_natCast]; refine hK _ _ _ ?_; clear hE hK K E
  by_cases hi : idxFrom (fun s : Ext => decide (n ≤ s.len)) 0 x.free < 0
  · have hT : takeX x n = (⟨0, 0⟩, ⟨0, []⟩, 6) := by unfold takeX; rw [if_neg hbad, if_pos hi]
    refine AWP.ifT (by simp -implicitDefEqProofs only [go_sem, ↓reduceIte, Nat.reduceEqDiff, Nat.reduceAdd, Nat.reduceMul, Nat.reduceLT, Nat.reduceLeDiff, reduceCtorEq, Int.toNat_natCast, hi]) ?_
    refine AWP.seqReg (by kernel_rfl) (fun E K hE hK => ?_); simp -implicitDefEqProofs only [go_sem, ↓reduceIte, Nat.reduceEqDiff, Nat.reduceAdd, Nat.reduceMul, Nat.reduceLT, Nat.reduceLeDiff, reduceCtorEq, Int.toNat_natCast]; refine hK _ _ _ ?_; clear hE hK K E
    refine AWP.ret ?_
    simp -implicitDefEqProofs only [go_sem, ↓reduceIte, Nat.reduceEqDiff, Nat.reduceAdd, Nat.reduceMul, Nat.reduceLT, Nat.reduceLeDiff, reduceCtorEq, Int.toNat_natCast]
    exact bad _ _ _ 6 hT (by decide) (by simp -implicitDefEqProofs only [go_sem, ↓reduceIte, Nat.reduceEqDiff, Nat.reduceAdd, Nat.reduceMul, Nat.reduceLT, Nat.reduceLeDiff, reduceCtorEq, Int.toNat_natCast]) (by simp -implicitDefEqProofs only [go_sem, ↓reduceIte, Nat.reduceEqDiff, Nat.reduceAdd, Nat.reduceMul, Nat.reduceLT, Nat.reduceLeDiff, reduceCtorEq, Int.toNat_natCast]) (by simp -implicitDefEqProofs only [go_sem, ↓reduceIte, Nat.reduceEqDiff, Nat.reduceAdd, Nat.reduceMul, Nat.reduceLT, Nat.reduceLeDiff, reduceCtorEq, Int.toNat_natCast]) (by simp -implicitDefEqProofs only [go_sem, ↓reduceIte, Nat.reduceEqDiff, Nat.reduceAdd, Nat.reduceMul, Nat.reduceLT, Nat.reduceLeDiff, reduceCtorEq, Int.toNat_natCast]) (by simp -implicitDefEqProofs only [go_sem, ↓reduceIte, Nat.reduceEqDiff, Nat.reduceAdd, Nat.reduceMul, Nat.reduceLT, Nat.reduceLeDiff, reduceCtorEq, Int.toNat_natCast]) (by intro id hid; simp -implicitDefEqProofs only [go_sem, ↓reduceIte, Nat.reduceEqDiff, Nat.reduceAdd, Nat.reduceMul, Nat.reduceLT, Nat.reduceLeDiff, reduceCtorEq, Int.toNat_natCast, show ¬ id = b by omega, show ¬ id = b + 1 by omega, show ¬ id = b + 2 by omega, show ¬ id = b + 3 by omega])
  refine AWP.ifF (by simp -implicitDefEqProofs only [go_sem, ↓reduceIte, Nat.reduceEqDiff, Nat.reduceAdd, Nat.reduceMul, Nat.reduceLT, Nat.reduceLeDiff, reduceCtorEq, Int.toNat_natCast, hi]) ?_
  refine AWP.skip ?_
  simp -implicitDefEqProofs only [go_sem, ↓reduceIte, Nat.reduceEqDiff, Nat.reduceAdd, Nat.reduceMul, Nat.reduceLT, Nat.reduceLeDiff, reduceCtorEq, Int.toNat_natCast]
  obtain ⟨i, hil, hie⟩ : ∃ i, i < x.free.length ∧ idxFrom (fun s : Ext => decide (n ≤ s.len)) 0 x.free = (i : Int) := by
    rcases idxFrom_spec (fun s : Ext => decide (n ≤ s.len)) x.free 0 with h | ⟨i, h1, h2⟩
    · rw [h] at hi; exact absurd (by decide) hi
    · exact ⟨i, h1, by rw [h2]; simp⟩
  have hge : (x.free.map encE).getD i [] = [.v (.int .i64 x.free[i].at_), .v (.int .i64 x.free[i].len)] := getD_map_encE x.free i hil
  have hgx : x.free.getD i ⟨0, 0⟩ = x.free[i] := by simp [List.getD, hil]
  refine AWP.seqRegD [] [] [b + 2] mixed (by kernel_rfl) (by kernel_rfl) (fun K hK => .inl ?_) (by kernel_rfl); simp -implicitDefEqProofs only [go_sem, ↓reduceIte, Nat.reduceEqDiff, Nat.reduceAdd, Nat.reduceMul, Nat.reduceLT, Nat.reduceLeDiff, reduceCtorEq, Int.toNat_natCast, hie, hge]
  refine ⟨⟨by omega, by omega⟩, (sub_ers _ _).upd (fun c e => ?_), ?_⟩
  · rw [ers_lit, if_pos rfl] at e
    simp -implicitDefEqProofs only [go_sem, ↓reduceIte, Nat.reduceEqDiff, Nat.reduceAdd, Nat.reduceMul, Nat.reduceLT, Nat.reduceLeDiff, reduceCtorEq, Int.toNat_natCast, Option.some.injEq] at e
    subst e; exact ⟨rfl, rfl⟩
  refine hK _ _ _ ?_; clear hK K
  refine AWP.seqReg (by kernel_rfl) (fun E K hE hK => ?_); simp -implicitDefEqProofs only [go_sem, ↓reduceIte, Nat.reduceEqDiff, Nat.reduceAdd, Nat.reduceMul, Nat.reduceLT, Nat.reduceLeDiff, reduceCtorEq, Int.toNat_natCast]
  refine CallR.use (clone_ext_ok (x.free.map encE) (okEs_ext _) _ _ (by rw [List.length_map]; omega)) body_30 ?_
  rintro _ _ ⟨ver, cap, T, g1, g2, g3, rfl, rfl⟩
  simp -implicitDefEqProofs only [go_sem, ↓reduceIte, Nat.reduceEqDiff, Nat.reduceAdd, Nat.reduceMul, Nat.reduceLT, Nat.reduceLeDiff, reduceCtorEq, Int.toNat_natCast]
  refine hK _ _ _ ?_; clear hE hK K E
  refine AWP.seqRegDL [] [] [] 15 mixed (by kernel_rfl) (by kernel_rfl) (by kernel_rfl) (by kernel_rfl) (by kernel_rfl) (fun K hK => ?_); simp -implicitDefEqProofs only [go_sem, ↓reduceIte, Nat.reduceEqDiff, Nat.reduceAdd, Nat.reduceMul, Nat.reduceLT, Nat.reduceLeDiff, reduceCtorEq, Int.toNat_natCast, hie]
  refine CallD.use (end_ok ⟨x.free[i].at_, n⟩ _ _) body_28 ?_
  rintro _ _ ⟨rfl, rfl⟩
  refine ⟨Sub.refl _, ?_⟩
  simp -implicitDefEqProofs only [go_sem, ↓reduceIte, Nat.reduceEqDiff, Nat.reduceAdd, Nat.reduceMul, Nat.reduceLT, Nat.reduceLeDiff, reduceCtorEq, Int.toNat_natCast, hie, List.length_map]
  have hrow1 : (List.map Cell.p (x.free.map encE).flatten ++ T)[i * 2 + 1]? = some (.p (.v (.int .i64 x.free[i].len))) := by
    have := row_cells (okEs_ext x.free) ver T i (encE x.free[i]) (by simp [hil]) 1 (.v (.int .i64 x.free[i].len)) rfl
    rw [Nat.zero_add] at this
    exact this
  refine ⟨⟨by omega, by omega⟩, ?_⟩
  simp -implicitDefEqProofs only [go_sem, ↓reduceIte, Nat.reduceEqDiff, Nat.reduceAdd, Nat.reduceMul, Nat.reduceLT, Nat.reduceLeDiff, reduceCtorEq, Int.toNat_natCast, hrow1]
  have hfl : (x.free.map encE).flatten.length = x.free.length * 2 := by rw [okEs_len (okEs_ext _), List.length_map]
  refine ⟨⟨by omega, by omega⟩, by rw [List.length_append, List.length_map, hfl]; omega, ?_⟩
  have hset := row_set x.free T i hil ⟨endW ⟨x.free[i].at_, n⟩, IntKind.i64.wrap (x.free[i].len - n)⟩
  simp only at hset
  rw [hset]
  have hsl : (x.free.set i ⟨endW ⟨x.free[i].at_, n⟩, IntKind.i64.wrap (x.free[i].len - n)⟩).length = x.free.length := List.length_set
  have hrow2 : (List.map Cell.p ((x.free.set i ⟨endW ⟨x.free[i].at_, n⟩, IntKind.i64.wrap (x.free[i].len - n)⟩).map encE).flatten ++ T)[i * 2 + 1]? = some (.p (.v (.int .i64 (IntKind.i64.wrap (x.free[i].len - n))))) := by
    have := row_cells (okEs_ext (x.free.set i ⟨endW ⟨x.free[i].at_, n⟩, IntKind.i64.wrap (x.free[i].len - n)⟩)) ver T i (encE ⟨endW ⟨x.free[i].at_, n⟩, IntKind.i64.wrap (x.free[i].len - n)⟩) (by simp [hil]) 1 (.v (.int .i64 (IntKind.i64.wrap (x.free[i].len - n)))) rfl
    rw [Nat.zero_add] at this
    exact this
  generalize hY : x.free.set i ⟨endW ⟨x.free[i].at_, n⟩, IntKind.i64.wrap (x.free[i].len - n)⟩ = ys at hsl hrow2 ⊢
  refine hK _ _ _ ?_; clear hK K
  refine AWP.seq ?_
  refine AWP.seqReg (by kernel_rfl) (fun E K hE hK => ?_); simp -implicitDefEqProofs only [go_sem, ↓reduceIte, Nat.reduceEqDiff, Nat.reduceAdd, Nat.reduceMul, Nat.reduceLT, Nat.reduceLeDiff, reduceCtorEq, Int.toNat_natCast, hrow2]
  refine ⟨⟨by omega, by omega⟩, ?_⟩
  refine hK _ _ _ ?_; clear hE hK K E
  have hTX : takeX x n = if W (x.free[i].len - n) = 0 then (⟨x.free[i].at_, n⟩, ⟨x.size, x.free.take i ++ x.free.drop (i + 1)⟩, 0) else (⟨x.free[i].at_, n⟩, ⟨x.size, x.free.set i ⟨W (x.free[i].at_ + n), W (x.free[i].len - n)⟩⟩, 0) := by
    unfold takeX
    rw [if_neg hbad, if_neg hi, hie, Int.toNat_natCast]
    simp only [hgx]
  have hil1 : IntKind.i64.wrap ((i : Int) + 1) = ((i + 1 : Nat) : Int) := wrap_i64 (by omega) (by omega)
  have fin : ∀ (t : Nat → AV) (hh : Heap) (m : Nat) (l : List Ext) (ver' cap' : Nat) (T' : List Cell), takeX x n = (⟨x.free[i].at_, n⟩, ⟨x.size, l⟩, 0) → l.length ≤ cap' → cap' * 2 = l.length * 2 + T'.length → lowCs 0 T' = true →
      t 4 = .one (.ptr (b + 2) 0 0) → t 5 = .one (.ptr (b + 3) 0 0) → t 6 = IntV 0 → hh (b + 2) = some ⟨0, [.p (.v (.int .i64 x.free[i].at_)), .p (.v (.int .i64 n))]⟩ →
      hh (b + 3) = some ⟨0, [.p (.v (.int .i64 x.size)), .win (b + 4) ver' 0 l.length cap']⟩ → hh (b + 4) = some (rowB ver' (l.map encE) T') → (∀ id, id < b → hh id = h id) →
      Am.Ends Try.prog ⟨Try.f12.ntmps, b, ι, h, w⟩ Try.f12 1 (ownR (takeX x n).2.1 (takeX x n).2.2 (fun v => .tup [ExtV (takeX x n).1, v, IntV (takeX x n).2.2]) h b) ⟨t, hh, m⟩ := by
    intro t hh m l ver' cap' T' he k1 k2 k3 e4 e5 e6 h4 h5 h6 ho
    rw [he]
    refine Ends.row hn H ho (id := b + 4) (Nat.le_add_right _ _) h6 (lowCs_app (lowCs_p _ _) (lowCs_mono (Nat.zero_le _) k3)) (r0 := .tup [ExtV ⟨x.free[i].at_, n⟩, .agg [.p (.v (.int .i64 x.size)), .win (b + 4) ver' 0 l.length cap'], IntV 0])
      (by rw [show Try.f12.results.toList = [.cell 4 33, .cell 5 26, .tmp 6] from rfl]; simp -implicitDefEqProofs only [go_sem, ↓reduceIte, Nat.reduceEqDiff, Nat.reduceAdd, Nat.reduceMul, Nat.reduceLT, Nat.reduceLeDiff, reduceCtorEq, Int.toNat_natCast, e4, e5, e6, h4, h5]; rfl)
      (renV_tup3 (renV_agg2 (renC_p _) (renC_p _)) (renV_agg2 (renC_p _) renC_win0) (renV.v _)) (.inl ⟨rfl, ver', cap', T', k1, k2, k3, rfl, rfl⟩)
  by_cases hz : IntKind.i64.wrap (x.free[i].len - n) = 0
  · refine AWP.ifT (by simp -implicitDefEqProofs only [go_sem, ↓reduceIte, Nat.reduceEqDiff, Nat.reduceAdd, Nat.reduceMul, Nat.reduceLT, Nat.reduceLeDiff, reduceCtorEq, Int.toNat_natCast, hz]) ?_
    rw [if_pos hz] at hTX
    refine AWP.reg (by kernel_rfl) (fun E K hE hK => ?_); simp -implicitDefEqProofs only [go_sem, ↓reduceIte, Nat.reduceEqDiff, Nat.reduceAdd, Nat.reduceMul, Nat.reduceLT, Nat.reduceLeDiff, reduceCtorEq, Int.toNat_natCast, hil1]
    have hes : (ys.map encE).length = x.free.length := by rw [List.length_map, hsl]
    refine CallR.use ((delete_ext_ok (ys.map encE) (okEs_ext _) _ _ (b + 4) ver cap i (i + 1) T (by show b + 4 < b + 5; omega) (upd_same _ _ _) g3 (by rw [hes]; simpa using g1) (by rw [hes]; simpa using g2) (Nat.lt_succ_self i) (by rw [hes]; omega) (by rw [hes]; omega)).arg_eq (by rw [hes])) body_32 ?_
    rintro _ _ ⟨ver', cap', T', k1, k2, k3, rfl, rfl⟩
    have hdr : (ys.map encE).take i ++ (ys.map encE).drop (i + 1) = (x.free.take i ++ x.free.drop (i + 1)).map encE := by
      rw [← hY, List.map_append, List.map_take, List.map_drop, List.map_set, List.take_set_of_le (Nat.le_refl _), List.drop_set_of_lt (Nat.lt_succ_self i)]
    rw [hdr] at k1 k2 ⊢
    generalize hZ : x.free.take i ++ x.free.drop (i + 1) = zs at k1 k2 hTX ⊢
    rw [List.length_map] at k1 k2 ⊢
    simp -implicitDefEqProofs only [go_sem, ↓reduceIte, Nat.reduceEqDiff, Nat.reduceAdd, Nat.reduceMul, Nat.reduceLT, Nat.reduceLeDiff, reduceCtorEq, Int.toNat_natCast]
    refine hK _ _ _ ?_; clear hE hK K E
    simp -implicitDefEqProofs only [go_sem, ↓reduceIte, Nat.reduceEqDiff, Nat.reduceAdd, Nat.reduceMul, Nat.reduceLT, Nat.reduceLeDiff, reduceCtorEq, Int.toNat_natCast]
    refine AWP.seqRegD [] [] [b + 3] mixed (by kernel_rfl) (by kernel_rfl) (fun K hK => .inl ?_) (by kernel_rfl); simp -implicitDefEqProofs only [go_sem, ↓reduceIte, Nat.reduceEqDiff, Nat.reduceAdd, Nat.reduceMul, Nat.reduceLT, Nat.reduceLeDiff, reduceCtorEq, Int.toNat_natCast]
    refine ⟨(sub_ers _ _).same (by simp -implicitDefEqProofs only [go_sem, ↓reduceIte, Nat.reduceEqDiff, Nat.reduceAdd, Nat.reduceMul, Nat.reduceLT, Nat.reduceLeDiff, reduceCtorEq, Int.toNat_natCast]), ((sub_ers _ _).same (by simp -implicitDefEqProofs only [go_sem, ↓reduceIte, Nat.reduceEqDiff, Nat.reduceAdd, Nat.reduceMul, Nat.reduceLT, Nat.reduceLeDiff, reduceCtorEq, Int.toNat_natCast])).upd (fun c e => ?_), ?_⟩
    · rw [ers_lit, if_pos rfl] at e
      simp -implicitDefEqProofs only [go_sem, ↓reduceIte, Nat.reduceEqDiff, Nat.reduceAdd, Nat.reduceMul, Nat.reduceLT, Nat.reduceLeDiff, reduceCtorEq, Int.toNat_natCast, Option.some.injEq] at e
      subst e; exact ⟨rfl, rfl⟩
    refine hK _ _ _ ?_; clear hK K
    refine AWP.ret ?_
    simp -implicitDefEqProofs only [go_sem, ↓reduceIte, Nat.reduceEqDiff, Nat.reduceAdd, Nat.reduceMul, Nat.reduceLT, Nat.reduceLeDiff, reduceCtorEq, Int.toNat_natCast]
    subst hZ
    exact fin _ _ _ _ ver' cap' T' hTX k1 k2 k3 (by simp -implicitDefEqProofs only [go_sem, ↓reduceIte, Nat.reduceEqDiff, Nat.reduceAdd, Nat.reduceMul, Nat.reduceLT, Nat.reduceLeDiff, reduceCtorEq, Int.toNat_natCast]) (by simp -implicitDefEqProofs only [go_sem, ↓reduceIte, Nat.reduceEqDiff, Nat.reduceAdd, Nat.reduceMul, Nat.reduceLT, Nat.reduceLeDiff, reduceCtorEq, Int.toNat_natCast]) (by simp -implicitDefEqProofs only [go_sem, ↓reduceIte, Nat.reduceEqDiff, Nat.reduceAdd, Nat.reduceMul, Nat.reduceLT, Nat.reduceLeDiff, reduceCtorEq, Int.toNat_natCast]) (by simp -implicitDefEqProofs only [go_sem, ↓reduceIte, Nat.reduceEqDiff, Nat.reduceAdd, Nat.reduceMul, Nat.reduceLT, Nat.reduceLeDiff, reduceCtorEq, Int.toNat_natCast]) (by simp -implicitDefEqProofs only [go_sem, ↓reduceIte, Nat.reduceEqDiff, Nat.reduceAdd, Nat.reduceMul, Nat.reduceLT, Nat.reduceLeDiff, reduceCtorEq, Int.toNat_natCast]) (by simp -implicitDefEqProofs only [go_sem, ↓reduceIte, Nat.reduceEqDiff, Nat.reduceAdd, Nat.reduceMul, Nat.reduceLT, Nat.reduceLeDiff, reduceCtorEq, Int.toNat_natCast]) (by intro id hid; simp -implicitDefEqProofs only [go_sem, ↓reduceIte, Nat.reduceEqDiff, Nat.reduceAdd, Nat.reduceMul, Nat.reduceLT, Nat.reduceLeDiff, reduceCtorEq, Int.toNat_natCast, show ¬ id = b by omega, show ¬ id = b + 1 by omega, show ¬ id = b + 2 by omega, show ¬ id = b + 3 by omega, show ¬ id = b + 4 by omega])
  · refine AWP.ifF (by simp -implicitDefEqProofs only [go_sem, ↓reduceIte, Nat.reduceEqDiff, Nat.reduceAdd, Nat.reduceMul, Nat.reduceLT, Nat.reduceLeDiff, reduceCtorEq, Int.toNat_natCast, hz]) ?_
    refine AWP.skip ?_
    simp -implicitDefEqProofs only [go_sem, ↓reduceIte, Nat.reduceEqDiff, Nat.reduceAdd, Nat.reduceMul, Nat.reduceLT, Nat.reduceLeDiff, reduceCtorEq, Int.toNat_natCast]
    rw [if_neg hz] at hTX
    refine AWP.seqRegD [] [] [b + 3] mixed (by kernel_rfl) (by kernel_rfl) (fun K hK => .inl ?_) (by kernel_rfl); simp -implicitDefEqProofs only [go_sem, ↓reduceIte, Nat.reduceEqDiff, Nat.reduceAdd, Nat.reduceMul, Nat.reduceLT, Nat.reduceLeDiff, reduceCtorEq, Int.toNat_natCast]
    refine ⟨(sub_ers _ _).same (by simp -implicitDefEqProofs only [go_sem, ↓reduceIte, Nat.reduceEqDiff, Nat.reduceAdd, Nat.reduceMul, Nat.reduceLT, Nat.reduceLeDiff, reduceCtorEq, Int.toNat_natCast]), ((sub_ers _ _).same (by simp -implicitDefEqProofs only [go_sem, ↓reduceIte, Nat.reduceEqDiff, Nat.reduceAdd, Nat.reduceMul, Nat.reduceLT, Nat.reduceLeDiff, reduceCtorEq, Int.toNat_natCast])).upd (fun c e => ?_), ?_⟩
    · rw [ers_lit, if_pos rfl] at e
      simp -implicitDefEqProofs only [go_sem, ↓reduceIte, Nat.reduceEqDiff, Nat.reduceAdd, Nat.reduceMul, Nat.reduceLT, Nat.reduceLeDiff, reduceCtorEq, Int.toNat_natCast, Option.some.injEq] at e
      subst e; exact ⟨rfl, rfl⟩
    refine hK _ _ _ ?_; clear hK K
    refine AWP.ret ?_
    simp -implicitDefEqProofs only [go_sem, ↓reduceIte, Nat.reduceEqDiff, Nat.reduceAdd, Nat.reduceMul, Nat.reduceLT, Nat.reduceLeDiff, reduceCtorEq, Int.toNat_natCast]
    subst hY
    exact fin _ _ _ _ ver cap T hTX (by rw [List.length_set]; simpa using g1) (by rw [List.length_set]; simpa using g2) g3 (by simp -implicitDefEqProofs only [go_sem, ↓reduceIte, Nat.reduceEqDiff, Nat.reduceAdd, Nat.reduceMul, Nat.reduceLT, Nat.reduceLeDiff, reduceCtorEq, Int.toNat_natCast]) (by simp -implicitDefEqProofs only [go_sem, ↓reduceIte, Nat.reduceEqDiff, Nat.reduceAdd, Nat.reduceMul, Nat.reduceLT, Nat.reduceLeDiff, reduceCtorEq, Int.toNat_natCast]) (by simp -implicitDefEqProofs only [go_sem, ↓reduceIte, Nat.reduceEqDiff, Nat.reduceAdd, Nat.reduceMul, Nat.reduceLT, Nat.reduceLeDiff, reduceCtorEq, Int.toNat_natCast]) (by simp -implicitDefEqProofs only [go_sem, ↓reduceIte, Nat.reduceEqDiff, Nat.reduceAdd, Nat.reduceMul, Nat.reduceLT, Nat.reduceLeDiff, reduceCtorEq, Int.toNat_natCast]) (by simp -implicitDefEqProofs only [go_sem, ↓reduceIte, Nat.reduceEqDiff, Nat.reduceAdd, Nat.reduceMul, Nat.reduceLT, Nat.reduceLeDiff, reduceCtorEq, Int.toNat_natCast, List.length_set]) (by simp -implicitDefEqProofs only [go_sem, ↓reduceIte, Nat.reduceEqDiff, Nat.reduceAdd, Nat.reduceMul, Nat.reduceLT, Nat.reduceLeDiff, reduceCtorEq, Int.toNat_natCast]; rfl) (by intro id hid; simp -implicitDefEqProofs only [go_sem, ↓reduceIte, Nat.reduceEqDiff, Nat.reduceAdd, Nat.reduceMul, Nat.reduceLT, Nat.reduceLeDiff, reduceCtorEq, Int.toNat_natCast, show ¬ id = b by omega, show ¬ id = b + 1 by omega, show ¬ id = b + 2 by omega, show ¬ id = b + 3 by omega, show ¬ id = b + 4 by omega])

end Go.Proofs.Ytdannmfdenlikaa
