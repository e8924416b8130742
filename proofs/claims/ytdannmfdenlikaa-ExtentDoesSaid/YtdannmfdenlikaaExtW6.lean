/-
  Walks of package extent: Keep.
-/
import Derived.Test.YtdannmfdenlikaaExtW5
namespace Go.Proofs.Ytdannmfdenlikaa
set_option linter.unusedSimpArgs false
set_option linter.unusedVariables false
set_option linter.unnecessarySimpa false
open Go Am
set_option maxRecDepth 100000

/-- a read-only result of an own-row result -/
theorem ownR.frz {x : Exts} {e : Int} {mk : AV → AV} {h : Heap} {b : Nat} {r : AV} {h' : Heap} (o : ownR x e mk h b r h') (hx : e ≠ 0 → x = ⟨0, []⟩) (hn : ∀ id, b ≤ id → h id = none)
    (hl : ∀ id blk, h id = some blk → ∀ c ∈ blk.cells, lowC b c = true) (hmk : ∀ (h' : Heap) (v v' : AV), frzV h' b v v' → frzV h' b (mk v) (mk v')) :
    ∃ r', frzV h' b r r' ∧ (r' = mk (ExtsV x) ∧ lowH b h' = h) ∧ ∀ id, id < b → ∀ blk, h' id = some blk → ∀ c ∈ blk.cells, lowC b c = true := by
  rcases o with ⟨he, ver, cap, T, h1, h2, h3, rfl, rfl⟩ | ⟨he, rfl, rfl⟩
  · refine ⟨mk (ExtsV x), hmk _ _ _ ?_, ⟨rfl, lowH_eq (lowEq_upd (Nat.le_refl _) (fun _ _ => rfl)) hn⟩, fun id hid blk hb c hc => ?_⟩
    · refine frz_agg2 (frz_p _) ?_
      have := frz_row0 (h := upd h b (rowB ver (x.free.map encE) T)) (cap := cap) (sz := 2) (Nat.le_refl b) (upd_same _ _ _) (okEs_ext x.free)
      rw [List.length_map] at this
      exact this
    · rw [upd_ne _ _ _ _ (by omega)] at hb; exact hl id blk hb c hc
  · rw [hx he]
    exact ⟨mk (ExtsV ⟨0, []⟩), hmk _ _ _ (frz_agg2 (frz_p _) (frz_nil 2)), ⟨rfl, lowH_eq (fun _ _ => rfl) hn⟩, fun id _ blk hb c hc => hl id blk hb c hc⟩

theorem Am.ACalls.freezeX {P : Program} {f : FuncId} {args : List AV} {x : Exts} {e : Int} {mk : AV → AV} {h : Heap} {b : Nat} (c : ACalls P f args h b 1 (ownR x e mk h b)) (hx : e ≠ 0 → x = ⟨0, []⟩)
    (hmk : ∀ (h' : Heap) (v v' : AV), frzV h' b v v' → frzV h' b (mk v) (mk v')) : ACalls P f args h b 0 (fun r h' => r = mk (ExtsV x) ∧ h' = h) := by
  intro ι w vs hb hh ha
  exact (ACalls.freeze c (fun r h' o => o.frz hx hb hh.lowCells hmk)) ι w vs hb hh ha

theorem takeX_err (x : Exts) (n : Int) (h : (takeX x n).2.2 ≠ 0) : (takeX x n).2.1 = ⟨0, []⟩ := by
  unfold takeX at h ⊢
  split
  · rfl
  · rename_i h1
    rw [if_neg h1] at h
    split
    · rfl
    · rename_i h2
      rw [if_neg h2] at h
      simp only at h
      split at h <;> exact absurd rfl h

theorem keepX_err (x : Exts) (s : Ext) (h : (keepX x s).2 ≠ 0) : (keepX x s).1 = ⟨0, []⟩ := by
  unfold keepX at h ⊢
  split
  · rfl
  · rename_i h1
    rw [if_neg h1] at h
    split
    · rfl
    · rename_i h2
      rw [if_neg h2] at h
      exact absurd rfl h

theorem giveX_err (x : Exts) (s : Ext) (h : (giveX x s).2 ≠ 0) : (giveX x s).1 = ⟨0, []⟩ := by
  unfold giveX at h ⊢
  split
  · rfl
  · rename_i h1
    rw [if_neg h1] at h
    split
    · rfl
    · rename_i h2
      rw [if_neg h2] at h
      exact absurd rfl h

theorem takeZ_ok (x : Exts) (n : Int) (h : Heap) (b : Nat) (hl : x.free.length ≤ 1000000) :
    ACalls Try.prog 12 [ExtsV x, IntV n] h b 0 (fun r h' => r = .tup [ExtV (takeX x n).1, ExtsV (takeX x n).2.1, IntV (takeX x n).2.2] ∧ h' = h) :=
  (take_ok x n h b hl).freezeX (takeX_err x n) (fun _ _ _ h => frz_tup3 (frz_agg2 (frz_p _) (frz_p _)) h (.v _))

def pcs (s f : Ext) : List Ext := [⟨f.at_, W (s.at_ - f.at_)⟩, ⟨endW s, W (endW f - endW s)⟩]

/-- at the head of Keep's loop -/
def keepI (x : Exts) (s f : Ext) (h : Heap) (b i k : Nat) (st : St) : Prop :=
  ∃ (ver cap : Nat) (T : List Cell) (rs : List Ext), rs = ((pcs s f).take k).filter (fun r => decide (0 < r.len)) ∧ rs.length ≤ cap ∧ cap * 2 = rs.length * 2 + T.length ∧ lowCs 0 T = true ∧
    st.h b = some ⟨0, encX x⟩ ∧ st.h (b + 1) = some ⟨0, (encE s).map .p⟩ ∧ st.h (b + 2) = some ⟨0, [.p (.v (.int .i64 0)), .p (.v (.slice none 0 0))]⟩ ∧ st.h (b + 4) = some (rowB ver (rs.map encE) T) ∧ (∀ id, id < b → st.h id = h id) ∧
    st.t 2 = .one (.ptr b 0 0) ∧ st.t 3 = .one (.ptr (b + 1) 0 0) ∧ st.t 4 = .one (.ptr (b + 2) 0 0) ∧ st.t 5 = IntV 0 ∧ st.t 7 = IntV i ∧ st.t 9 = .one (.win (b + 4) ver 0 rs.length cap) ∧
    st.t 47 = .agg [.p (.v (.int .i64 f.at_)), .p (.v (.int .i64 (W (s.at_ - f.at_)))), .p (.v (.int .i64 (endW s))), .p (.v (.int .i64 (W (endW f - endW s))))] ∧ st.t 48 = IntV k

theorem keep_ok (x : Exts) (s : Ext) (h : Heap) (b : Nat) (hl : x.free.length ≤ 1000000) :
    ACalls Try.prog 16 [ExtsV x, ExtV s] h b 1 (ownR (keepX x s).1 (keepX x s).2 (fun v => .tup [v, IntV (keepX x s).2]) h b) := by
  refine ACalls.enter Try.func16 rfl (by simp [Try.ntmps16]) (fun ι w hn H => ?_)
  have hlow := H.lowCells
  unfold ExtsV ExtV
  refine AWP.seqReg (by kernel_rfl) (fun E K hE hK => ?_); simp -implicitDefEqProofs only [go_sem, ↓reduceIte, Nat.reduceEqDiff, Nat.reduceAdd, Nat.reduceMul, Nat.reduceLT, Nat.reduceLeDiff, reduceCtorEq, Int.toNat_natCast]; refine hK _ _ _ ?_; clear hE hK K E
  refine AWP.seq ?_
  refine AWP.seqReg (by kernel_rfl) (fun E K hE hK => ?_); simp -implicitDefEqProofs only [go_sem, ↓reduceIte, Nat.reduceEqDiff, Nat.reduceAdd, Nat.reduceMul, Nat.reduceLT, Nat.reduceLeDiff, reduceCtorEq, Int.toNat_natCast]
  refine CallR.use (both_ok x s _ _ (by omega)) body_25 ?_; rintro _ h_ ⟨rfl, e_⟩; rw [e_]; clear e_ h_; simp -implicitDefEqProofs only [go_sem, ↓reduceIte, Nat.reduceEqDiff, Nat.reduceAdd, Nat.reduceMul, Nat.reduceLT, Nat.reduceLeDiff, reduceCtorEq, Int.toNat_natCast]
  refine hK _ _ _ ?_; clear hE hK K E
  have bad : ∀ (t : Nat → AV) (hh : Heap) (m : Nat) (e : Int), keepX x s = (⟨0, []⟩, e) → e ≠ 0 → t 4 = .one (.ptr (b + 2) 0 0) → t 5 = IntV e →
      hh (b + 2) = some ⟨0, [.p (.v (.int .i64 0)), .p (.v (.slice none 0 0))]⟩ → (∀ id, id < b → hh id = h id) →
      Am.Ends Try.prog ⟨Try.f16.ntmps, b, ι, h, w⟩ Try.f16 1 (ownR (keepX x s).1 (keepX x s).2 (fun v => .tup [v, IntV (keepX x s).2]) h b) ⟨t, hh, m⟩ := by
    intro t hh m e he hne e4 e5 h5 ho
    rw [he]
    refine Ends.le (m := 0) (Nat.zero_le _) (Ends.pure hn H ho (r0 := .tup [.agg [.p (.v (.int .i64 0)), .p (.v (.slice none 0 0))], IntV e]) (by rw [show Try.f16.results.toList = [.cell 4 26, .tmp 5] from rfl]; simp -implicitDefEqProofs only [go_sem, ↓reduceIte, Nat.reduceEqDiff, Nat.reduceAdd, Nat.reduceMul, Nat.reduceLT, Nat.reduceLeDiff, reduceCtorEq, Int.toNat_natCast, e4, e5, h5])
      (frz_tup2 (frz_agg2 (frz_p _) (frz_p _)) (.v _)) (.inr ⟨hne, rfl, rfl⟩))
  refine AWP.seqReg (by kernel_rfl) (fun E K hE hK => ?_); simp -implicitDefEqProofs only [go_sem, ↓reduceIte, Nat.reduceEqDiff, Nat.reduceAdd, Nat.reduceMul, Nat.reduceLT, Nat.reduceLeDiff, reduceCtorEq, Int.toNat_natCast]
  refine hK _ _ _ ?_; clear hE hK K E
  by_cases hb : bothE x s = 0
  case neg =>
    have hT : keepX x s = (⟨0, []⟩, bothE x s) := by unfold keepX; rw [if_pos hb]
    refine AWP.ifT (by simp -implicitDefEqProofs only [go_sem, ↓reduceIte, Nat.reduceEqDiff, Nat.reduceAdd, Nat.reduceMul, Nat.reduceLT, Nat.reduceLeDiff, reduceCtorEq, Int.toNat_natCast, hb]) ?_
    refine AWP.seqReg (by kernel_rfl) (fun E K hE hK => ?_); simp -implicitDefEqProofs only [go_sem, ↓reduceIte, Nat.reduceEqDiff, Nat.reduceAdd, Nat.reduceMul, Nat.reduceLT, Nat.reduceLeDiff, reduceCtorEq, Int.toNat_natCast]; refine hK _ _ _ ?_; clear hE hK K E
    refine AWP.ret ?_
    simp -implicitDefEqProofs only [go_sem, ↓reduceIte, Nat.reduceEqDiff, Nat.reduceAdd, Nat.reduceMul, Nat.reduceLT, Nat.reduceLeDiff, reduceCtorEq, Int.toNat_natCast]
    exact bad _ _ _ _ hT hb (by simp -implicitDefEqProofs only [go_sem, ↓reduceIte, Nat.reduceEqDiff, Nat.reduceAdd, Nat.reduceMul, Nat.reduceLT, Nat.reduceLeDiff, reduceCtorEq, Int.toNat_natCast]) (by simp -implicitDefEqProofs only [go_sem, ↓reduceIte, Nat.reduceEqDiff, Nat.reduceAdd, Nat.reduceMul, Nat.reduceLT, Nat.reduceLeDiff, reduceCtorEq, Int.toNat_natCast]) (by simp -implicitDefEqProofs only [go_sem, ↓reduceIte, Nat.reduceEqDiff, Nat.reduceAdd, Nat.reduceMul, Nat.reduceLT, Nat.reduceLeDiff, reduceCtorEq, Int.toNat_natCast]) (by intro id hid; simp -implicitDefEqProofs only [go_sem, ↓reduceIte, Nat.reduceEqDiff, Nat.reduceAdd, Nat.reduceMul, Nat.reduceLT, Nat.reduceLeDiff, reduceCtorEq, Int.toNat_natCast, show ¬ id = b by omega, show ¬ id = b + 1 by omega, show ¬ id = b + 2 by omega])
  refine AWP.ifF (by simp -implicitDefEqProofs only [go_sem, ↓reduceIte, Nat.reduceEqDiff, Nat.reduceAdd, Nat.reduceMul, Nat.reduceLT, Nat.reduceLeDiff, reduceCtorEq, Int.toNat_natCast, hb]) ?_; refine AWP.skip ?_; simp -implicitDefEqProofs only [go_sem, ↓reduceIte, Nat.reduceEqDiff, Nat.reduceAdd, Nat.reduceMul, Nat.reduceLT, Nat.reduceLeDiff, reduceCtorEq, Int.toNat_natCast]
  refine AWP.seqReg (by kernel_rfl) (fun E K hE hK => ?_); simp -implicitDefEqProofs only [go_sem, ↓reduceIte, Nat.reduceEqDiff, Nat.reduceAdd, Nat.reduceMul, Nat.reduceLT, Nat.reduceLeDiff, reduceCtorEq, Int.toNat_natCast]
  refine CallR.use (index_ext_ok 35 [.ptr (b + 1) 0 0] (fun f : Ext => decide (f.at_ ≤ s.at_) && decide (endW s ≤ endW f)) x.free _ _ body_35 (by simp [lowCs, lowC]) (by omega) (fun e _ => keepF_ok s e _ _ (b + 1) 0 (Nat.add_lt_add_left (by decide) b) (by simp -implicitDefEqProofs only [go_sem, ↓reduceIte, Nat.reduceEqDiff, Nat.reduceAdd, Nat.reduceMul, Nat.reduceLT, Nat.reduceLeDiff, reduceCtorEq, Int.toNat_natCast] <;> rfl))) body_26 ?_; rintro _ h_ ⟨rfl, e_⟩; rw [e_]; clear e_ h_; simp -implicitDefEqProofs only [go_sem, ↓reduceIte, Nat.reduceEqDiff, Nat.reduceAdd, Nat.reduceMul, Nat.reduceLT, Nat.reduceLeDiff, reduceCtorEq, Int.toNat_natCast]
  refine hK _ _ _ ?_; clear hE hK K E
  refine AWP.seq ?_
  refine AWP.seqReg (by kernel_rfl) (fun E K hE hK => ?_); simp -implicitDefEqProofs only [go_sem, ↓reduceIte, Nat.reduceEqDiff, Nat.reduceAdd, Nat.reduceMul, Nat.reduceLT, Nat.reduceLeDiff, reduceCtorEq, Int.toNat_natCast]; refine hK _ _ _ ?_; clear hE hK K E
  by_cases hi : idxFrom (fun f : Ext => decide (f.at_ ≤ s.at_) && decide (endW s ≤ endW f)) 0 x.free < 0
  · have hT : keepX x s = (⟨0, []⟩, 4) := by unfold keepX; rw [if_neg (by rw [hb]; simp), if_pos hi]
    refine AWP.ifT (by simp -implicitDefEqProofs only [go_sem, ↓reduceIte, Nat.reduceEqDiff, Nat.reduceAdd, Nat.reduceMul, Nat.reduceLT, Nat.reduceLeDiff, reduceCtorEq, Int.toNat_natCast, hi]) ?_
    refine AWP.seqReg (by kernel_rfl) (fun E K hE hK => ?_); simp -implicitDefEqProofs only [go_sem, ↓reduceIte, Nat.reduceEqDiff, Nat.reduceAdd, Nat.reduceMul, Nat.reduceLT, Nat.reduceLeDiff, reduceCtorEq, Int.toNat_natCast]; refine hK _ _ _ ?_; clear hE hK K E
    refine AWP.ret ?_
    simp -implicitDefEqProofs only [go_sem, ↓reduceIte, Nat.reduceEqDiff, Nat.reduceAdd, Nat.reduceMul, Nat.reduceLT, Nat.reduceLeDiff, reduceCtorEq, Int.toNat_natCast]
    exact bad _ _ _ 4 hT (by decide) (by simp -implicitDefEqProofs only [go_sem, ↓reduceIte, Nat.reduceEqDiff, Nat.reduceAdd, Nat.reduceMul, Nat.reduceLT, Nat.reduceLeDiff, reduceCtorEq, Int.toNat_natCast]) (by simp -implicitDefEqProofs only [go_sem, ↓reduceIte, Nat.reduceEqDiff, Nat.reduceAdd, Nat.reduceMul, Nat.reduceLT, Nat.reduceLeDiff, reduceCtorEq, Int.toNat_natCast]) (by simp -implicitDefEqProofs only [go_sem, ↓reduceIte, Nat.reduceEqDiff, Nat.reduceAdd, Nat.reduceMul, Nat.reduceLT, Nat.reduceLeDiff, reduceCtorEq, Int.toNat_natCast]) (by intro id hid; simp -implicitDefEqProofs only [go_sem, ↓reduceIte, Nat.reduceEqDiff, Nat.reduceAdd, Nat.reduceMul, Nat.reduceLT, Nat.reduceLeDiff, reduceCtorEq, Int.toNat_natCast, show ¬ id = b by omega, show ¬ id = b + 1 by omega, show ¬ id = b + 2 by omega])
  refine AWP.ifF (by simp -implicitDefEqProofs only [go_sem, ↓reduceIte, Nat.reduceEqDiff, Nat.reduceAdd, Nat.reduceMul, Nat.reduceLT, Nat.reduceLeDiff, reduceCtorEq, Int.toNat_natCast, hi]) ?_; refine AWP.skip ?_; simp -implicitDefEqProofs only [go_sem, ↓reduceIte, Nat.reduceEqDiff, Nat.reduceAdd, Nat.reduceMul, Nat.reduceLT, Nat.reduceLeDiff, reduceCtorEq, Int.toNat_natCast]
  obtain ⟨i, hil, hie⟩ : ∃ i, i < x.free.length ∧ idxFrom (fun f : Ext => decide (f.at_ ≤ s.at_) && decide (endW s ≤ endW f)) 0 x.free = (i : Int) := by
    rcases idxFrom_spec (fun f : Ext => decide (f.at_ ≤ s.at_) && decide (endW s ≤ endW f)) x.free 0 with h | ⟨i, h1, h2⟩
    · rw [h] at hi; exact absurd (by decide) hi
    · exact ⟨i, h1, by rw [h2]; simp⟩
  have hge : (x.free.map encE).getD i [] = [.v (.int .i64 x.free[i].at_), .v (.int .i64 x.free[i].len)] := getD_map_encE x.free i hil
  have hgx : x.free.getD i ⟨0, 0⟩ = x.free[i] := by simp [List.getD, hil]
  have hTX : keepX x s = (⟨x.size, x.free.take i ++ (restOf x.free[i] s ++ x.free.drop (i + 1))⟩, 0) := by
    unfold keepX
    rw [if_neg (by rw [hb]; simp), if_neg hi, hie, Int.toNat_natCast]
    simp only [hgx]
  generalize hf : x.free[i] = f at hge hTX
  refine AWP.seqReg (by kernel_rfl) (fun E K hE hK => ?_); simp -implicitDefEqProofs only [go_sem, ↓reduceIte, Nat.reduceEqDiff, Nat.reduceAdd, Nat.reduceMul, Nat.reduceLT, Nat.reduceLeDiff, reduceCtorEq, Int.toNat_natCast, hie, hge]
  refine ⟨⟨by omega, by omega⟩, ?_⟩
  refine hK _ _ _ ?_; clear hE hK K E
  refine AWP.seqReg (by kernel_rfl) (fun E K hE hK => ?_); simp -implicitDefEqProofs only [go_sem, ↓reduceIte, Nat.reduceEqDiff, Nat.reduceAdd, Nat.reduceMul, Nat.reduceLT, Nat.reduceLeDiff, reduceCtorEq, Int.toNat_natCast]; refine hK _ _ _ ?_; clear hE hK K E
  refine AWP.seq ?_
  refine AWP.seqRegD [] [] [] mixed (by kernel_rfl) (by kernel_rfl) (fun K hK => .inl ?_) (by kernel_rfl); simp -implicitDefEqProofs only [go_sem, ↓reduceIte, Nat.reduceEqDiff, Nat.reduceAdd, Nat.reduceMul, Nat.reduceLT, Nat.reduceLeDiff, reduceCtorEq, Int.toNat_natCast]
  refine CallD.use (end_ok s _ _) body_28 ?_; rintro _ h_ ⟨rfl, e_⟩; rw [e_]; clear e_ h_; refine ⟨Sub.refl _, ?_⟩; simp -implicitDefEqProofs only [go_sem, ↓reduceIte, Nat.reduceEqDiff, Nat.reduceAdd, Nat.reduceMul, Nat.reduceLT, Nat.reduceLeDiff, reduceCtorEq, Int.toNat_natCast]
  refine CallD.use (end_ok f _ _) body_28 ?_; rintro _ h_ ⟨rfl, e_⟩; rw [e_]; clear e_ h_; refine ⟨Sub.refl _, ?_⟩; simp -implicitDefEqProofs only [go_sem, ↓reduceIte, Nat.reduceEqDiff, Nat.reduceAdd, Nat.reduceMul, Nat.reduceLT, Nat.reduceLeDiff, reduceCtorEq, Int.toNat_natCast]
  refine CallD.use (end_ok s _ _) body_28 ?_; rintro _ h_ ⟨rfl, e_⟩; rw [e_]; clear e_ h_; refine ⟨Sub.refl _, ?_⟩; simp -implicitDefEqProofs only [go_sem, ↓reduceIte, Nat.reduceEqDiff, Nat.reduceAdd, Nat.reduceMul, Nat.reduceLT, Nat.reduceLeDiff, reduceCtorEq, Int.toNat_natCast]
  refine hK _ _ _ ?_; clear hK K
  refine AWP.virt 9 (by simp -implicitDefEqProofs only [go_sem, ↓reduceIte, Nat.reduceEqDiff, Nat.reduceAdd, Nat.reduceMul, Nat.reduceLT, Nat.reduceLeDiff, reduceCtorEq, Int.toNat_natCast]) ?_
  refine AWP.block ?_
  refine AWP.loopUp 5 2 (keepI x s f h b i) 0 (by decide) rfl ⟨0, 0, [], [], rfl, Nat.le_refl _, rfl, rfl, by simp -implicitDefEqProofs only [go_sem, ↓reduceIte, Nat.reduceEqDiff, Nat.reduceAdd, Nat.reduceMul, Nat.reduceLT, Nat.reduceLeDiff, reduceCtorEq, Int.toNat_natCast] <;> rfl, by simp -implicitDefEqProofs only [go_sem, ↓reduceIte, Nat.reduceEqDiff, Nat.reduceAdd, Nat.reduceMul, Nat.reduceLT, Nat.reduceLeDiff, reduceCtorEq, Int.toNat_natCast] <;> rfl, by simp -implicitDefEqProofs only [go_sem, ↓reduceIte, Nat.reduceEqDiff, Nat.reduceAdd, Nat.reduceMul, Nat.reduceLT, Nat.reduceLeDiff, reduceCtorEq, Int.toNat_natCast], by simp -implicitDefEqProofs only [go_sem, ↓reduceIte, Nat.reduceEqDiff, Nat.reduceAdd, Nat.reduceMul, Nat.reduceLT, Nat.reduceLeDiff, reduceCtorEq, Int.toNat_natCast] <;> rfl, ?_, by simp -implicitDefEqProofs only [go_sem, ↓reduceIte, Nat.reduceEqDiff, Nat.reduceAdd, Nat.reduceMul, Nat.reduceLT, Nat.reduceLeDiff, reduceCtorEq, Int.toNat_natCast], by simp -implicitDefEqProofs only [go_sem, ↓reduceIte, Nat.reduceEqDiff, Nat.reduceAdd, Nat.reduceMul, Nat.reduceLT, Nat.reduceLeDiff, reduceCtorEq, Int.toNat_natCast], by simp -implicitDefEqProofs only [go_sem, ↓reduceIte, Nat.reduceEqDiff, Nat.reduceAdd, Nat.reduceMul, Nat.reduceLT, Nat.reduceLeDiff, reduceCtorEq, Int.toNat_natCast], by simp -implicitDefEqProofs only [go_sem, ↓reduceIte, Nat.reduceEqDiff, Nat.reduceAdd, Nat.reduceMul, Nat.reduceLT, Nat.reduceLeDiff, reduceCtorEq, Int.toNat_natCast], by simp -implicitDefEqProofs only [go_sem, ↓reduceIte, Nat.reduceEqDiff, Nat.reduceAdd, Nat.reduceMul, Nat.reduceLT, Nat.reduceLeDiff, reduceCtorEq, Int.toNat_natCast], by simp -implicitDefEqProofs only [go_sem, ↓reduceIte, Nat.reduceEqDiff, Nat.reduceAdd, Nat.reduceMul, Nat.reduceLT, Nat.reduceLeDiff, reduceCtorEq, Int.toNat_natCast] <;> rfl, by simp -implicitDefEqProofs only [go_sem, ↓reduceIte, Nat.reduceEqDiff, Nat.reduceAdd, Nat.reduceMul, Nat.reduceLT, Nat.reduceLeDiff, reduceCtorEq, Int.toNat_natCast], by simp -implicitDefEqProofs only [go_sem, ↓reduceIte, Nat.reduceEqDiff, Nat.reduceAdd, Nat.reduceMul, Nat.reduceLT, Nat.reduceLeDiff, reduceCtorEq, Int.toNat_natCast] <;> rfl⟩ ?_
  · intro id hid; simp -implicitDefEqProofs only [go_sem, ↓reduceIte, Nat.reduceEqDiff, Nat.reduceAdd, Nat.reduceMul, Nat.reduceLT, Nat.reduceLeDiff, reduceCtorEq, Int.toNat_natCast, show ¬ id = b by omega, show ¬ id = b + 1 by omega, show ¬ id = b + 2 by omega, show ¬ id = b + 3 by omega, show ¬ id = b + 4 by omega]
  rintro k ⟨t, hh, m⟩ hk ⟨ver, cap, T, rs, hrs, q1, q2, q3, hb0, hb1, hb2, hb4, ho, e2, e3, e4, e5, e7, e9, e47, e48⟩ hm
  simp only at hb0 hb1 hb2 hb4 ho e2 e3 e4 e5 e7 e9 e47 e48 hm
  subst hm
  by_cases hk2 : k < 2
  · obtain ⟨r, hr⟩ : ∃ r, (pcs s f)[k]? = some r := by
      have : k < (pcs s f).length := hk2
      exact ⟨_, List.getElem?_eq_getElem this⟩
    have hcell : List.take 2 (List.drop (k * 2) [Cell.p (.v (.int .i64 f.at_)), .p (.v (.int .i64 (W (s.at_ - f.at_)))), .p (.v (.int .i64 (endW s))), .p (.v (.int .i64 (W (endW f - endW s))))]) = [.p (.v (.int .i64 r.at_)), .p (.v (.int .i64 r.len))] := by
      rcases (show k = 0 ∨ k = 1 by omega) with rfl | rfl <;> (simp [pcs] at hr; subst hr; rfl)
    have hstep : ((pcs s f).take (k + 1)).filter (fun r => decide (0 < r.len)) = rs ++ (if 0 < r.len then [r] else []) := by
      rw [List.take_add_one, hr, List.filter_append, ← hrs]
      by_cases h0 : 0 < r.len <;> simp [h0]
    have hrl : rs.length ≤ 2 := by
      rw [hrs]
      refine Nat.le_trans (List.length_filter_le _ _) ?_
      rw [List.length_take]
      exact Nat.le_trans (Nat.min_le_right _ _) (Nat.le_refl _)
    refine AWP.seqReg (by kernel_rfl) (fun E K hE hK => ?_); simp -implicitDefEqProofs only [go_sem, ↓reduceIte, Nat.reduceEqDiff, Nat.reduceAdd, Nat.reduceMul, Nat.reduceLT, Nat.reduceLeDiff, reduceCtorEq, Int.toNat_natCast, e48, show (k : Int) < 2 by omega, decide_true]; refine hK _ _ _ ?_; clear hE hK K E
    refine AWP.seq ?_
    refine AWP.ifT (by simp -implicitDefEqProofs only [go_sem, ↓reduceIte, Nat.reduceEqDiff, Nat.reduceAdd, Nat.reduceMul, Nat.reduceLT, Nat.reduceLeDiff, reduceCtorEq, Int.toNat_natCast]) ?_
    refine AWP.skip ?_
    simp -implicitDefEqProofs only [go_sem, ↓reduceIte, Nat.reduceEqDiff, Nat.reduceAdd, Nat.reduceMul, Nat.reduceLT, Nat.reduceLeDiff, reduceCtorEq, Int.toNat_natCast]
    refine AWP.seq ?_
    refine AWP.block ?_
    refine AWP.seqReg (by kernel_rfl) (fun E K hE hK => ?_); simp -implicitDefEqProofs only [go_sem, ↓reduceIte, Nat.reduceEqDiff, Nat.reduceAdd, Nat.reduceMul, Nat.reduceLT, Nat.reduceLeDiff, reduceCtorEq, Int.toNat_natCast, e47, e48, hcell]
    refine ⟨by omega, by omega, ?_⟩
    refine hK _ _ _ ?_; clear hE hK K E
    refine AWP.seqReg (by kernel_rfl) (fun E K hE hK => ?_); simp -implicitDefEqProofs only [go_sem, ↓reduceIte, Nat.reduceEqDiff, Nat.reduceAdd, Nat.reduceMul, Nat.reduceLT, Nat.reduceLeDiff, reduceCtorEq, Int.toNat_natCast]; refine hK _ _ _ ?_; clear hE hK K E
    by_cases h0 : 0 < r.len
    · refine AWP.ifT (by simp -implicitDefEqProofs only [go_sem, ↓reduceIte, Nat.reduceEqDiff, Nat.reduceAdd, Nat.reduceMul, Nat.reduceLT, Nat.reduceLeDiff, reduceCtorEq, Int.toNat_natCast, h0]) ?_
      refine AWP.reg (by kernel_rfl) (fun E K hE hK => ?_); simp -implicitDefEqProofs only [go_sem, ↓reduceIte, Nat.reduceEqDiff, Nat.reduceAdd, Nat.reduceMul, Nat.reduceLT, Nat.reduceLeDiff, reduceCtorEq, Int.toNat_natCast, e9, hb4]
      have hsrc := srcA_row (h := upd (upd hh (b + 5) ⟨0, [.p (.v (.int .i64 r.at_)), .p (.v (.int .i64 r.len))]⟩) (b + 6) ⟨0, [.p (.v (.int .i64 r.at_)), .p (.v (.int .i64 r.len))]⟩) (id := b + 6) (ver := 0) (sz := 2) (m := 1) (off := 0) (cap := 1) (es := [encE r]) (T := []) 0 (by simp -implicitDefEqProofs only [go_sem, ↓reduceIte, Nat.reduceEqDiff, Nat.reduceAdd, Nat.reduceMul, Nat.reduceLT, Nat.reduceLeDiff, reduceCtorEq, Int.toNat_natCast]; rfl) (okEs_ext [r]) (Nat.le_refl _) (.inl rfl)
      refine BiR.of ?_
      refine BiK.append_own (e := 33) (sz := 2) (bytes := 16) (blk := rowB ver (rs.map encE) T) ty_slE_24 ty_tsz_33 ty_tzero_33 rfl ty_tby_33 ty_isIntT_24 (by simp -implicitDefEqProofs only [go_sem, ↓reduceIte, Nat.reduceEqDiff, Nat.reduceAdd, Nat.reduceMul, Nat.reduceLT, Nat.reduceLeDiff, reduceCtorEq, Int.toNat_natCast, hb4]) rfl
        (by rw [List.length_append, List.length_map, okEs_len (okEs_ext rs), List.length_map]; omega) hsrc (okEs_flat (okEs_ext [r]) _) (by omega) (by decide) (by omega) (fun cap' j g1 g2 => ?_)
      rw [show List.take 1 (List.drop 0 [encE r]) = [encE r] from rfl, row_push (okEs_ext rs) (by rw [List.length_map])]
      rw [show rs.map encE ++ [encE r] = (rs ++ [r]).map encE by simp]
      have hlr : (rs ++ [r]).length = rs.length + 1 := by simp
      generalize hrr : rs ++ [r] = rr at hstep hlr ⊢
      rw [← hlr]
      simp -implicitDefEqProofs only [go_sem, ↓reduceIte, Nat.reduceEqDiff, Nat.reduceAdd, Nat.reduceMul, Nat.reduceLT, Nat.reduceLeDiff, reduceCtorEq, Int.toNat_natCast]
      refine hK _ _ _ ?_; clear hE hK K E
      simp -implicitDefEqProofs only [go_sem, ↓reduceIte, Nat.reduceEqDiff, Nat.reduceAdd, Nat.reduceMul, Nat.reduceLT, Nat.reduceLeDiff, reduceCtorEq, Int.toNat_natCast]
      refine AWP.reg (by kernel_rfl) (fun E K hE hK => ?_); simp -implicitDefEqProofs only [go_sem, ↓reduceIte, Nat.reduceEqDiff, Nat.reduceAdd, Nat.reduceMul, Nat.reduceLT, Nat.reduceLeDiff, reduceCtorEq, Int.toNat_natCast, e48]
      refine hK _ _ _ ?_; clear hE hK K E
      refine ⟨(by decide : 5 ≤ 7), hk2, ver + 1, cap', List.replicate j .junk, rr, by rw [hstep, if_pos h0, hrr], by omega, by rw [List.length_replicate]; omega, lowCs_junk _ _,
        cutH_same (Nat.lt_add_of_pos_right (by decide)) (by simp -implicitDefEqProofs only [go_sem, ↓reduceIte, Nat.reduceEqDiff, Nat.reduceAdd, Nat.reduceMul, Nat.reduceLT, Nat.reduceLeDiff, reduceCtorEq, Int.toNat_natCast, hb0]) rfl, cutH_same (Nat.add_lt_add_left (by decide) _) (by simp -implicitDefEqProofs only [go_sem, ↓reduceIte, Nat.reduceEqDiff, Nat.reduceAdd, Nat.reduceMul, Nat.reduceLT, Nat.reduceLeDiff, reduceCtorEq, Int.toNat_natCast, hb1]) rfl, cutH_same (Nat.add_lt_add_left (by decide) _) (by simp -implicitDefEqProofs only [go_sem, ↓reduceIte, Nat.reduceEqDiff, Nat.reduceAdd, Nat.reduceMul, Nat.reduceLT, Nat.reduceLeDiff, reduceCtorEq, Int.toNat_natCast, hb2]) rfl, cutH_same (Nat.add_lt_add_left (by decide) _) (by simp -implicitDefEqProofs only [go_sem, ↓reduceIte, Nat.reduceEqDiff, Nat.reduceAdd, Nat.reduceMul, Nat.reduceLT, Nat.reduceLeDiff, reduceCtorEq, Int.toNat_natCast]) (lowCs_app (lowCs_p _ _) (lowCs_junk _ _)),
        cutH_outer (Nat.le_add_right _ _) (lowEq_ne (lowEq_ne (lowEq_ne ho (by omega) _) (by omega) _) (by omega) _) hlow, by simp -implicitDefEqProofs only [go_sem, ↓reduceIte, Nat.reduceEqDiff, Nat.reduceAdd, Nat.reduceMul, Nat.reduceLT, Nat.reduceLeDiff, reduceCtorEq, Int.toNat_natCast, e2]; exact cutV_ptr (Nat.lt_add_of_pos_right (by decide)), by simp -implicitDefEqProofs only [go_sem, ↓reduceIte, Nat.reduceEqDiff, Nat.reduceAdd, Nat.reduceMul, Nat.reduceLT, Nat.reduceLeDiff, reduceCtorEq, Int.toNat_natCast, e3]; exact cutV_ptr (Nat.add_lt_add_left (by decide) _), by simp -implicitDefEqProofs only [go_sem, ↓reduceIte, Nat.reduceEqDiff, Nat.reduceAdd, Nat.reduceMul, Nat.reduceLT, Nat.reduceLeDiff, reduceCtorEq, Int.toNat_natCast, e4]; exact cutV_ptr (Nat.add_lt_add_left (by decide) _), by simp -implicitDefEqProofs only [go_sem, ↓reduceIte, Nat.reduceEqDiff, Nat.reduceAdd, Nat.reduceMul, Nat.reduceLT, Nat.reduceLeDiff, reduceCtorEq, Int.toNat_natCast, e5], by simp -implicitDefEqProofs only [go_sem, ↓reduceIte, Nat.reduceEqDiff, Nat.reduceAdd, Nat.reduceMul, Nat.reduceLT, Nat.reduceLeDiff, reduceCtorEq, Int.toNat_natCast, e7], by simp -implicitDefEqProofs only [go_sem, ↓reduceIte, Nat.reduceEqDiff, Nat.reduceAdd, Nat.reduceMul, Nat.reduceLT, Nat.reduceLeDiff, reduceCtorEq, Int.toNat_natCast]; exact cutV_win (Nat.add_lt_add_left (by decide) _), by simp -implicitDefEqProofs only [go_sem, ↓reduceIte, Nat.reduceEqDiff, Nat.reduceAdd, Nat.reduceMul, Nat.reduceLT, Nat.reduceLeDiff, reduceCtorEq, Int.toNat_natCast, e47]; rfl, ?_⟩
      simp -implicitDefEqProofs only [go_sem, ↓reduceIte, Nat.reduceEqDiff, Nat.reduceAdd, Nat.reduceMul, Nat.reduceLT, Nat.reduceLeDiff, reduceCtorEq, Int.toNat_natCast]; rw [wrap_i64 (by omega) (by omega)]; rfl
    · refine AWP.ifF (by simp -implicitDefEqProofs only [go_sem, ↓reduceIte, Nat.reduceEqDiff, Nat.reduceAdd, Nat.reduceMul, Nat.reduceLT, Nat.reduceLeDiff, reduceCtorEq, Int.toNat_natCast, h0]) ?_; refine AWP.skip ?_; simp -implicitDefEqProofs only [go_sem, ↓reduceIte, Nat.reduceEqDiff, Nat.reduceAdd, Nat.reduceMul, Nat.reduceLT, Nat.reduceLeDiff, reduceCtorEq, Int.toNat_natCast]
      refine AWP.reg (by kernel_rfl) (fun E K hE hK => ?_); simp -implicitDefEqProofs only [go_sem, ↓reduceIte, Nat.reduceEqDiff, Nat.reduceAdd, Nat.reduceMul, Nat.reduceLT, Nat.reduceLeDiff, reduceCtorEq, Int.toNat_natCast, e48]
      refine hK _ _ _ ?_; clear hE hK K E
      refine ⟨(by decide : 5 ≤ 6), hk2, ver, cap, T, rs, by rw [hstep, if_neg h0, List.append_nil], q1, q2, q3,
        cutH_same (Nat.lt_add_of_pos_right (by decide)) (by simp -implicitDefEqProofs only [go_sem, ↓reduceIte, Nat.reduceEqDiff, Nat.reduceAdd, Nat.reduceMul, Nat.reduceLT, Nat.reduceLeDiff, reduceCtorEq, Int.toNat_natCast, hb0]) rfl, cutH_same (Nat.add_lt_add_left (by decide) _) (by simp -implicitDefEqProofs only [go_sem, ↓reduceIte, Nat.reduceEqDiff, Nat.reduceAdd, Nat.reduceMul, Nat.reduceLT, Nat.reduceLeDiff, reduceCtorEq, Int.toNat_natCast, hb1]) rfl, cutH_same (Nat.add_lt_add_left (by decide) _) (by simp -implicitDefEqProofs only [go_sem, ↓reduceIte, Nat.reduceEqDiff, Nat.reduceAdd, Nat.reduceMul, Nat.reduceLT, Nat.reduceLeDiff, reduceCtorEq, Int.toNat_natCast, hb2]) rfl, cutH_same (Nat.add_lt_add_left (by decide) _) (by simp -implicitDefEqProofs only [go_sem, ↓reduceIte, Nat.reduceEqDiff, Nat.reduceAdd, Nat.reduceMul, Nat.reduceLT, Nat.reduceLeDiff, reduceCtorEq, Int.toNat_natCast, hb4]) (lowCs_app (lowCs_p _ _) (lowCs_mono (Nat.zero_le _) q3)),
        cutH_outer (Nat.le_add_right _ _) (lowEq_ne ho (by omega) _) hlow, by simp -implicitDefEqProofs only [go_sem, ↓reduceIte, Nat.reduceEqDiff, Nat.reduceAdd, Nat.reduceMul, Nat.reduceLT, Nat.reduceLeDiff, reduceCtorEq, Int.toNat_natCast, e2]; exact cutV_ptr (Nat.lt_add_of_pos_right (by decide)), by simp -implicitDefEqProofs only [go_sem, ↓reduceIte, Nat.reduceEqDiff, Nat.reduceAdd, Nat.reduceMul, Nat.reduceLT, Nat.reduceLeDiff, reduceCtorEq, Int.toNat_natCast, e3]; exact cutV_ptr (Nat.add_lt_add_left (by decide) _), by simp -implicitDefEqProofs only [go_sem, ↓reduceIte, Nat.reduceEqDiff, Nat.reduceAdd, Nat.reduceMul, Nat.reduceLT, Nat.reduceLeDiff, reduceCtorEq, Int.toNat_natCast, e4]; exact cutV_ptr (Nat.add_lt_add_left (by decide) _), by simp -implicitDefEqProofs only [go_sem, ↓reduceIte, Nat.reduceEqDiff, Nat.reduceAdd, Nat.reduceMul, Nat.reduceLT, Nat.reduceLeDiff, reduceCtorEq, Int.toNat_natCast, e5], by simp -implicitDefEqProofs only [go_sem, ↓reduceIte, Nat.reduceEqDiff, Nat.reduceAdd, Nat.reduceMul, Nat.reduceLT, Nat.reduceLeDiff, reduceCtorEq, Int.toNat_natCast, e7], by simp -implicitDefEqProofs only [go_sem, ↓reduceIte, Nat.reduceEqDiff, Nat.reduceAdd, Nat.reduceMul, Nat.reduceLT, Nat.reduceLeDiff, reduceCtorEq, Int.toNat_natCast, e9]; exact cutV_win (Nat.add_lt_add_left (by decide) _), by simp -implicitDefEqProofs only [go_sem, ↓reduceIte, Nat.reduceEqDiff, Nat.reduceAdd, Nat.reduceMul, Nat.reduceLT, Nat.reduceLeDiff, reduceCtorEq, Int.toNat_natCast, e47]; rfl, ?_⟩
      simp -implicitDefEqProofs only [go_sem, ↓reduceIte, Nat.reduceEqDiff, Nat.reduceAdd, Nat.reduceMul, Nat.reduceLT, Nat.reduceLeDiff, reduceCtorEq, Int.toNat_natCast]; rw [wrap_i64 (by omega) (by omega)]; rfl
  · have : k = 2 := by omega
    subst this
    have hrs' : rs = restOf f s := hrs
    refine AWP.seqReg (by kernel_rfl) (fun E K hE hK => ?_); simp -implicitDefEqProofs only [go_sem, ↓reduceIte, Nat.reduceEqDiff, Nat.reduceAdd, Nat.reduceMul, Nat.reduceLT, Nat.reduceLeDiff, reduceCtorEq, Int.toNat_natCast, e48, int_c0, int_c1, int_c2, Int.reduceLT, decide_false]; refine hK _ _ _ ?_; clear hE hK K E
    refine AWP.seq ?_
    refine AWP.ifF (by simp -implicitDefEqProofs only [go_sem, ↓reduceIte, Nat.reduceEqDiff, Nat.reduceAdd, Nat.reduceMul, Nat.reduceLT, Nat.reduceLeDiff, reduceCtorEq, Int.toNat_natCast]) ?_
    refine AWP.exit ?_
    simp -implicitDefEqProofs only [go_sem, ↓reduceIte, Nat.reduceEqDiff, Nat.reduceAdd, Nat.reduceMul, Nat.reduceLT, Nat.reduceLeDiff, reduceCtorEq, Int.toNat_natCast]
    have hrl : rs.length ≤ 2 := by
      rw [hrs]
      refine Nat.le_trans (List.length_filter_le _ _) ?_
      rw [List.length_take]
      exact Nat.le_trans (Nat.min_le_right _ _) (Nat.le_refl _)
    refine AWP.frz 9 (cap := cap) (len := rs.length) 2 (rs.map encE) (by simp -implicitDefEqProofs only [go_sem, ↓reduceIte, Nat.reduceEqDiff, Nat.reduceAdd, Nat.reduceMul, Nat.reduceLT, Nat.reduceLeDiff, reduceCtorEq, Int.toNat_natCast, e9]) hb4 rfl (by rw [List.length_map]) (okEs_ext rs).len (row_cells (okEs_ext rs) ver T) ?_
    have hil1 : IntKind.i64.wrap ((i : Int) + 1) = ((i + 1 : Nat) : Int) := wrap_i64 (by omega) (by omega)
    refine AWP.seqReg (by kernel_rfl) (fun E K hE hK => ?_); simp -implicitDefEqProofs only [go_sem, ↓reduceIte, Nat.reduceEqDiff, Nat.reduceAdd, Nat.reduceMul, Nat.reduceLT, Nat.reduceLeDiff, reduceCtorEq, Int.toNat_natCast, hb0, encX, delH_lit, e2, e3, e4, e7]
    refine CallR.use (clone_ext_ok (x.free.map encE) (okEs_ext _) _ _ (by rw [List.length_map]; omega)) body_30 ?_
    rintro _ _ ⟨ver1, cap1, T1, g1, g2, g3, rfl, rfl⟩
    simp -implicitDefEqProofs only [go_sem, ↓reduceIte, Nat.reduceEqDiff, Nat.reduceAdd, Nat.reduceMul, Nat.reduceLT, Nat.reduceLeDiff, reduceCtorEq, Int.toNat_natCast, e7, hil1]
    have hes : (x.free.map encE).length = x.free.length := by rw [List.length_map]
    refine CallR.use ((replace_ext_ok (x.free.map encE) (rs.map encE) (okEs_ext _) (okEs_ext _) _ _ (b + 5) ver1 cap1 i (i + 1) T1 (by show b + 5 < b + 6; omega) (upd_same _ _ _) g3 g1 g2 (Nat.le_succ i) (by rw [hes]; omega) (by rw [hes]; omega) (by rw [List.length_map]; omega)).arg_eq (by rw [hes])) body_29 ?_
    rintro _ _ ⟨ver', cap', T', k1, k2, k3, rfl, rfl⟩
    have hdr : (x.free.map encE).take i ++ (rs.map encE ++ (x.free.map encE).drop (i + 1)) = (x.free.take i ++ (rs ++ x.free.drop (i + 1))).map encE := by
      rw [List.map_append, List.map_append, List.map_take, List.map_drop]
    rw [hdr] at k1 k2 ⊢
    rw [← hrs'] at hTX
    generalize hZ : x.free.take i ++ (rs ++ x.free.drop (i + 1)) = zs at k1 k2 hTX ⊢
    rw [List.length_map] at k1 k2 ⊢
    simp -implicitDefEqProofs only [go_sem, ↓reduceIte, Nat.reduceEqDiff, Nat.reduceAdd, Nat.reduceMul, Nat.reduceLT, Nat.reduceLeDiff, reduceCtorEq, Int.toNat_natCast, e2, hb0, encX, delH_lit]
    refine hK _ _ _ ?_; clear hE hK K E
    refine AWP.seqReg (by kernel_rfl) (fun E K hE hK => ?_); simp -implicitDefEqProofs only [go_sem, ↓reduceIte, Nat.reduceEqDiff, Nat.reduceAdd, Nat.reduceMul, Nat.reduceLT, Nat.reduceLeDiff, reduceCtorEq, Int.toNat_natCast, e2, e4, hb2, delH_lit]
    refine hK _ _ _ ?_; clear hE hK K E
    refine AWP.ret ?_
    simp -implicitDefEqProofs only [go_sem, ↓reduceIte, Nat.reduceEqDiff, Nat.reduceAdd, Nat.reduceMul, Nat.reduceLT, Nat.reduceLeDiff, reduceCtorEq, Int.toNat_natCast]
    rw [hTX]
    subst hZ
    refine Ends.row hn H (fun id hid => ?_) (id := b + 5) (Nat.le_add_right _ _) (blk := rowB ver' ((x.free.take i ++ (rs ++ x.free.drop (i + 1))).map encE) T') (by simp -implicitDefEqProofs only [go_sem, ↓reduceIte, Nat.reduceEqDiff, Nat.reduceAdd, Nat.reduceMul, Nat.reduceLT, Nat.reduceLeDiff, reduceCtorEq, Int.toNat_natCast]) (lowCs_app (lowCs_p _ _) (lowCs_mono (Nat.zero_le _) k3)) (r0 := .tup [.agg [.p (.v (.int .i64 x.size)), .win (b + 5) ver' 0 (x.free.take i ++ (rs ++ x.free.drop (i + 1))).length cap'], IntV 0])
      (by rw [show Try.f16.results.toList = [.cell 4 26, .tmp 5] from rfl]; simp -implicitDefEqProofs only [go_sem, ↓reduceIte, Nat.reduceEqDiff, Nat.reduceAdd, Nat.reduceMul, Nat.reduceLT, Nat.reduceLeDiff, reduceCtorEq, Int.toNat_natCast, e4])
      (renV_tup2 (renV_agg2 (renC_p _) renC_win0) (renV.v _)) (.inl ⟨rfl, ver', cap', T', k1, k2, k3, rfl, rfl⟩)
    have hid' : id < b := hid
    simp -implicitDefEqProofs only [go_sem, ↓reduceIte, Nat.reduceEqDiff, Nat.reduceAdd, Nat.reduceMul, Nat.reduceLT, Nat.reduceLeDiff, reduceCtorEq, Int.toNat_natCast, show ¬ id = b by omega, show ¬ id = b + 1 by omega, show ¬ id = b + 2 by omega, show ¬ id = b + 3 by omega, show ¬ id = b + 4 by omega, show ¬ id = b + 5 by omega, delH_lit, ho id hid']

theorem keepZ_ok (x : Exts) (s : Ext) (h : Heap) (b : Nat) (hl : x.free.length ≤ 1000000) :
    ACalls Try.prog 16 [ExtsV x, ExtV s] h b 0 (fun r h' => r = .tup [ExtsV (keepX x s).1, IntV (keepX x s).2] ∧ h' = h) :=
  (keep_ok x s h b hl).freezeX (keepX_err x s) (fun _ _ _ h => frz_tup2 h (.v _))

end Go.Proofs.Ytdannmfdenlikaa
