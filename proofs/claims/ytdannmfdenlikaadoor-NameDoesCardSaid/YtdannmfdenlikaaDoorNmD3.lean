/-
  Walks of the reference for names: Clean.
-/
import Derived.Test.YtdannmfdenlikaaDoorNmD2
namespace Go.Proofs.YtdannmfdenlikaaDoor
set_option linter.unusedSimpArgs false
set_option linter.unusedVariables false
set_option linter.unnecessarySimpa false
open Go Am
set_option maxRecDepth 100000

theorem fitsX_cases (l : S) : fitsX l = if 96 < l.length then 3 else if octsB l = true then 0 else 2 := rfl

theorem goC_step (kept : List S) (ps : List S) (i : Nat) (h : i < ps.length) : goC kept (ps.drop i) = match stepC kept ps[i] with
    | some k => goC k (ps.drop (i + 1))
    | none => none := by
  rw [List.drop_eq_getElem_cons h]; rfl

/-- at the head of the loop of the reference's Clean -/
def rclI (l : S) (h : Heap) (b i : Nat) (st : St) : Prop :=
  ∃ ver cap ks, goC [] (parts l) = goC ks ((parts l).drop i) ∧ StrRow st.h b ver cap ks ∧ (∀ id, id < b → st.h id = h id) ∧ st.t 4 = .one (.win b ver 0 ks.length cap) ∧ st.t 14 = ListV (parts l) ∧
    st.t 15 = IntV (parts l).length ∧ st.t 16 = IntV (i : Nat) ∧ ks.length ≤ i ∧ wt ks ≤ wt ((parts l).take i)

theorem wt_take_succ (xs : List S) (i : Nat) (h : i < xs.length) : wt (xs.take (i + 1)) = wt (xs.take i) + wt [xs[i]] := by
  rw [List.take_add_one, List.getElem?_eq_getElem h, wt_app]; rfl

theorem rClean_ok (s : ByteArray) (hs : s.size ≤ 1000) (h : Heap) (b : Nat) : ACalls Tryd.prog 16 [StrB s] h b 0 (fun r h' => r = .tup [StrV (cleanX (bl s)).1, IntV (cleanX (bl s)).2] ∧ h' = h) := by
  refine ACalls.enter Tryd.func16 rfl (by simp [Tryd.ntmps16]) (fun ι w hn H => ?_)
  have hlow := H.lowCells
  have hlen := bl_len s
  have fin : ∀ (t : Nat → AV) (hh : Heap) (n : Nat) (v : S × Int), t 2 = StrV v.1 → t 3 = IntV v.2 → (∀ id, id < b → hh id = h id) → v = cleanX (bl s) → Am.Ends Tryd.prog ⟨Tryd.f16.ntmps, b, ι, h, w, x0⟩ Tryd.f16 0 (fun r h' => r = .tup [StrV (cleanX (bl s)).1, IntV (cleanX (bl s)).2] ∧ h' = h) ⟨t, hh, n⟩ := by
    intro t hh n v ht ht2 ho hv
    exact Ends.pure hn H ho (r0 := .tup [StrV v.1, IntV v.2]) (by rw [show Tryd.f16.results.toList = [.tmp 2, .tmp 3] from rfl]; simp -implicitDefEqProofs only [go_sem, ↓reduceIte, Nat.reduceEqDiff, Nat.reduceAdd, Nat.reduceMul, Nat.reduceLT, Nat.reduceLeDiff, reduceCtorEq, Int.toNat_natCast, ht, ht2]) (frz_tup2 (.v _) (.v _)) ⟨by rw [hv], rfl⟩
  refine AWP.seqReg (by kernel_rfl) (fun E K hE hK => ?_); simp -implicitDefEqProofs only [go_sem, ↓reduceIte, Nat.reduceEqDiff, Nat.reduceAdd, Nat.reduceMul, Nat.reduceLT, Nat.reduceLeDiff, reduceCtorEq, Int.toNat_natCast]; refine hK _ _ _ ?_; clear hE hK K E
  refine AWP.seq ?_
  refine AWP.seqReg (by kernel_rfl) (fun E K hE hK => ?_); simp -implicitDefEqProofs only [go_sem, ↓reduceIte, Nat.reduceEqDiff, Nat.reduceAdd, Nat.reduceMul, Nat.reduceLT, Nat.reduceLeDiff, reduceCtorEq, Int.toNat_natCast]; refine hK _ _ _ ?_; clear hE hK K E
  by_cases h1 : (96 : Int) < s.size
  · refine AWP.ifT (by simp -implicitDefEqProofs only [go_sem, ↓reduceIte, Nat.reduceEqDiff, Nat.reduceAdd, Nat.reduceMul, Nat.reduceLT, Nat.reduceLeDiff, reduceCtorEq, Int.toNat_natCast, h1]) ?_
    refine AWP.seqReg (by kernel_rfl) (fun E K hE hK => ?_); simp -implicitDefEqProofs only [go_sem, ↓reduceIte, Nat.reduceEqDiff, Nat.reduceAdd, Nat.reduceMul, Nat.reduceLT, Nat.reduceLeDiff, reduceCtorEq, Int.toNat_natCast]; refine hK _ _ _ ?_; clear hE hK K E
    refine AWP.ret ?_
    simp -implicitDefEqProofs only [go_sem, ↓reduceIte, Nat.reduceEqDiff, Nat.reduceAdd, Nat.reduceMul, Nat.reduceLT, Nat.reduceLeDiff, reduceCtorEq, Int.toNat_natCast]
    have hf : fitsX (bl s) = 3 := by rw [fitsX_cases, if_pos (by omega)]
    exact fin _ _ _ ([], 3) (by (first | (simp -implicitDefEqProofs only [go_sem, ↓reduceIte, Nat.reduceEqDiff, Nat.reduceAdd, Nat.reduceMul, Nat.reduceLT, Nat.reduceLeDiff, reduceCtorEq, Int.toNat_natCast]; done) | (simp -implicitDefEqProofs only [go_sem, ↓reduceIte, Nat.reduceEqDiff, Nat.reduceAdd, Nat.reduceMul, Nat.reduceLT, Nat.reduceLeDiff, reduceCtorEq, Int.toNat_natCast]; rfl) | rfl)) (by (first | (simp -implicitDefEqProofs only [go_sem, ↓reduceIte, Nat.reduceEqDiff, Nat.reduceAdd, Nat.reduceMul, Nat.reduceLT, Nat.reduceLeDiff, reduceCtorEq, Int.toNat_natCast]; done) | (simp -implicitDefEqProofs only [go_sem, ↓reduceIte, Nat.reduceEqDiff, Nat.reduceAdd, Nat.reduceMul, Nat.reduceLT, Nat.reduceLeDiff, reduceCtorEq, Int.toNat_natCast]; rfl) | rfl)) (fun _ _ => rfl) (by unfold cleanX; rw [if_pos (by rw [hf]; decide), hf])
  refine AWP.ifF (by simp -implicitDefEqProofs only [go_sem, ↓reduceIte, Nat.reduceEqDiff, Nat.reduceAdd, Nat.reduceMul, Nat.reduceLT, Nat.reduceLeDiff, reduceCtorEq, Int.toNat_natCast, h1]) ?_; refine AWP.skip ?_; simp -implicitDefEqProofs only [go_sem, ↓reduceIte, Nat.reduceEqDiff, Nat.reduceAdd, Nat.reduceMul, Nat.reduceLT, Nat.reduceLeDiff, reduceCtorEq, Int.toNat_natCast]
  refine AWP.seq ?_
  by_cases h2 : octsB (bl s) = true
  case neg =>
    have h2' : octsB (bl s) = false := by simpa using h2
    have hf : fitsX (bl s) = 2 := by rw [fitsX_cases, if_neg (by omega), if_neg h2]
    refine AWP.seqReg (by kernel_rfl) (fun E K hE hK => ?_); simp -implicitDefEqProofs only [go_sem, ↓reduceIte, Nat.reduceEqDiff, Nat.reduceAdd, Nat.reduceMul, Nat.reduceLT, Nat.reduceLeDiff, reduceCtorEq, Int.toNat_natCast]
    refine CallR.use (octets_ok s hs _ _) body_30 ?_; rintro _ h_ ⟨rfl, e_⟩; rw [e_]; clear e_ h_; simp -implicitDefEqProofs only [go_sem, ↓reduceIte, Nat.reduceEqDiff, Nat.reduceAdd, Nat.reduceMul, Nat.reduceLT, Nat.reduceLeDiff, reduceCtorEq, Int.toNat_natCast]
    simp -implicitDefEqProofs only [go_sem, ↓reduceIte, Nat.reduceEqDiff, Nat.reduceAdd, Nat.reduceMul, Nat.reduceLT, Nat.reduceLeDiff, reduceCtorEq, Int.toNat_natCast, h2']
    refine hK _ _ _ ?_; clear hE hK K E
    refine AWP.ifT (by simp -implicitDefEqProofs only [go_sem, ↓reduceIte, Nat.reduceEqDiff, Nat.reduceAdd, Nat.reduceMul, Nat.reduceLT, Nat.reduceLeDiff, reduceCtorEq, Int.toNat_natCast]) ?_
    refine AWP.seqReg (by kernel_rfl) (fun E K hE hK => ?_); simp -implicitDefEqProofs only [go_sem, ↓reduceIte, Nat.reduceEqDiff, Nat.reduceAdd, Nat.reduceMul, Nat.reduceLT, Nat.reduceLeDiff, reduceCtorEq, Int.toNat_natCast]; refine hK _ _ _ ?_; clear hE hK K E
    refine AWP.ret ?_
    simp -implicitDefEqProofs only [go_sem, ↓reduceIte, Nat.reduceEqDiff, Nat.reduceAdd, Nat.reduceMul, Nat.reduceLT, Nat.reduceLeDiff, reduceCtorEq, Int.toNat_natCast]
    exact fin _ _ _ ([], 2) (by (first | (simp -implicitDefEqProofs only [go_sem, ↓reduceIte, Nat.reduceEqDiff, Nat.reduceAdd, Nat.reduceMul, Nat.reduceLT, Nat.reduceLeDiff, reduceCtorEq, Int.toNat_natCast]; done) | (simp -implicitDefEqProofs only [go_sem, ↓reduceIte, Nat.reduceEqDiff, Nat.reduceAdd, Nat.reduceMul, Nat.reduceLT, Nat.reduceLeDiff, reduceCtorEq, Int.toNat_natCast]; rfl) | rfl)) (by (first | (simp -implicitDefEqProofs only [go_sem, ↓reduceIte, Nat.reduceEqDiff, Nat.reduceAdd, Nat.reduceMul, Nat.reduceLT, Nat.reduceLeDiff, reduceCtorEq, Int.toNat_natCast]; done) | (simp -implicitDefEqProofs only [go_sem, ↓reduceIte, Nat.reduceEqDiff, Nat.reduceAdd, Nat.reduceMul, Nat.reduceLT, Nat.reduceLeDiff, reduceCtorEq, Int.toNat_natCast]; rfl) | rfl)) (fun _ _ => rfl) (by unfold cleanX; rw [if_pos (by rw [hf]; decide), hf])
  have hf : fitsX (bl s) = 0 := by rw [fitsX_cases, if_neg (by omega), if_pos h2]
  have hwp := joinS_wt (parts_ne (bl s))
  rw [joinS_parts] at hwp
  have hpl := parts_len (bl s)
  refine AWP.seqReg (by kernel_rfl) (fun E K hE hK => ?_); simp -implicitDefEqProofs only [go_sem, ↓reduceIte, Nat.reduceEqDiff, Nat.reduceAdd, Nat.reduceMul, Nat.reduceLT, Nat.reduceLeDiff, reduceCtorEq, Int.toNat_natCast]
  refine CallR.use (octets_ok s hs _ _) body_30 ?_; rintro _ h_ ⟨rfl, e_⟩; rw [e_]; clear e_ h_; simp -implicitDefEqProofs only [go_sem, ↓reduceIte, Nat.reduceEqDiff, Nat.reduceAdd, Nat.reduceMul, Nat.reduceLT, Nat.reduceLeDiff, reduceCtorEq, Int.toNat_natCast]
  simp -implicitDefEqProofs only [go_sem, ↓reduceIte, Nat.reduceEqDiff, Nat.reduceAdd, Nat.reduceMul, Nat.reduceLT, Nat.reduceLeDiff, reduceCtorEq, Int.toNat_natCast, h2]
  refine hK _ _ _ ?_; clear hE hK K E
  refine AWP.ifF (by simp -implicitDefEqProofs only [go_sem, ↓reduceIte, Nat.reduceEqDiff, Nat.reduceAdd, Nat.reduceMul, Nat.reduceLT, Nat.reduceLeDiff, reduceCtorEq, Int.toNat_natCast]) ?_; refine AWP.skip ?_; simp -implicitDefEqProofs only [go_sem, ↓reduceIte, Nat.reduceEqDiff, Nat.reduceAdd, Nat.reduceMul, Nat.reduceLT, Nat.reduceLeDiff, reduceCtorEq, Int.toNat_natCast]
  refine AWP.seqReg (by kernel_rfl) (fun E K hE hK => ?_); simp -implicitDefEqProofs only [go_sem, ↓reduceIte, Nat.reduceEqDiff, Nat.reduceAdd, Nat.reduceMul, Nat.reduceLT, Nat.reduceLeDiff, reduceCtorEq, Int.toNat_natCast]; refine hK _ _ _ ?_; clear hE hK K E
  refine AWP.virt 4 (by (first | (simp -implicitDefEqProofs only [go_sem, ↓reduceIte, Nat.reduceEqDiff, Nat.reduceAdd, Nat.reduceMul, Nat.reduceLT, Nat.reduceLeDiff, reduceCtorEq, Int.toNat_natCast]; done) | (simp -implicitDefEqProofs only [go_sem, ↓reduceIte, Nat.reduceEqDiff, Nat.reduceAdd, Nat.reduceMul, Nat.reduceLT, Nat.reduceLeDiff, reduceCtorEq, Int.toNat_natCast]; rfl) | rfl)) ?_
  simp -implicitDefEqProofs only [go_sem, ↓reduceIte, Nat.reduceEqDiff, Nat.reduceAdd, Nat.reduceMul, Nat.reduceLT, Nat.reduceLeDiff, reduceCtorEq, Int.toNat_natCast]
  refine AWP.seq ?_
  refine AWP.seqReg (by kernel_rfl) (fun E K hE hK => ?_); simp -implicitDefEqProofs only [go_sem, ↓reduceIte, Nat.reduceEqDiff, Nat.reduceAdd, Nat.reduceMul, Nat.reduceLT, Nat.reduceLeDiff, reduceCtorEq, Int.toNat_natCast]
  refine CallR.use (Parts_ok s hs _ _) body_31 ?_; rintro _ h_ ⟨rfl, e_⟩; rw [e_]; clear e_ h_; simp -implicitDefEqProofs only [go_sem, ↓reduceIte, Nat.reduceEqDiff, Nat.reduceAdd, Nat.reduceMul, Nat.reduceLT, Nat.reduceLeDiff, reduceCtorEq, Int.toNat_natCast]
  refine hK _ _ _ ?_; clear hE hK K E
  refine AWP.block ?_
  refine AWP.loopM 1 (fun m st => ∃ i, i ≤ (parts (bl s)).length ∧ m = (parts (bl s)).length - i ∧ rclI (bl s) h b i st) (parts (bl s)).length rfl ⟨0, Nat.zero_le _, rfl, 0, 0, [], rfl, ⟨[], by (first | (simp -implicitDefEqProofs only [go_sem, ↓reduceIte, Nat.reduceEqDiff, Nat.reduceAdd, Nat.reduceMul, Nat.reduceLT, Nat.reduceLeDiff, reduceCtorEq, Int.toNat_natCast]; done) | (simp -implicitDefEqProofs only [go_sem, ↓reduceIte, Nat.reduceEqDiff, Nat.reduceAdd, Nat.reduceMul, Nat.reduceLT, Nat.reduceLeDiff, reduceCtorEq, Int.toNat_natCast]; rfl) | rfl), rfl, rfl⟩, (fun id (hid : id < b) => by simp -implicitDefEqProofs only [go_sem, ↓reduceIte, Nat.reduceEqDiff, Nat.reduceAdd, Nat.reduceMul, Nat.reduceLT, Nat.reduceLeDiff, reduceCtorEq, Int.toNat_natCast, show ¬ id = b by omega]), by (first | (simp -implicitDefEqProofs only [go_sem, ↓reduceIte, Nat.reduceEqDiff, Nat.reduceAdd, Nat.reduceMul, Nat.reduceLT, Nat.reduceLeDiff, reduceCtorEq, Int.toNat_natCast]; done) | (simp -implicitDefEqProofs only [go_sem, ↓reduceIte, Nat.reduceEqDiff, Nat.reduceAdd, Nat.reduceMul, Nat.reduceLT, Nat.reduceLeDiff, reduceCtorEq, Int.toNat_natCast]; rfl) | rfl), by (first | (simp -implicitDefEqProofs only [go_sem, ↓reduceIte, Nat.reduceEqDiff, Nat.reduceAdd, Nat.reduceMul, Nat.reduceLT, Nat.reduceLeDiff, reduceCtorEq, Int.toNat_natCast]; done) | (simp -implicitDefEqProofs only [go_sem, ↓reduceIte, Nat.reduceEqDiff, Nat.reduceAdd, Nat.reduceMul, Nat.reduceLT, Nat.reduceLeDiff, reduceCtorEq, Int.toNat_natCast]; rfl) | rfl), by (first | (simp -implicitDefEqProofs only [go_sem, ↓reduceIte, Nat.reduceEqDiff, Nat.reduceAdd, Nat.reduceMul, Nat.reduceLT, Nat.reduceLeDiff, reduceCtorEq, Int.toNat_natCast, List.length_map]; done) | (simp -implicitDefEqProofs only [go_sem, ↓reduceIte, Nat.reduceEqDiff, Nat.reduceAdd, Nat.reduceMul, Nat.reduceLT, Nat.reduceLeDiff, reduceCtorEq, Int.toNat_natCast, List.length_map]; rfl) | rfl), by (first | (simp -implicitDefEqProofs only [go_sem, ↓reduceIte, Nat.reduceEqDiff, Nat.reduceAdd, Nat.reduceMul, Nat.reduceLT, Nat.reduceLeDiff, reduceCtorEq, Int.toNat_natCast]; done) | (simp -implicitDefEqProofs only [go_sem, ↓reduceIte, Nat.reduceEqDiff, Nat.reduceAdd, Nat.reduceMul, Nat.reduceLT, Nat.reduceLeDiff, reduceCtorEq, Int.toNat_natCast]; rfl) | rfl), Nat.le_refl _, Nat.zero_le _⟩ ?_
  rintro m ⟨t, hh, n⟩ ⟨i, hi, rfl, ver, cap, ks, hg, hr, ho, e4, e14, e15, e16, hki, hkw⟩ hn1
  simp only at hr ho e4 e14 e15 e16 hn1
  subst hn1
  have hw1 : IntKind.i64.wrap ((i : Int) + 1) = ((i + 1 : Nat) : Int) := by rw [wrap_i64 (by omega) (by omega)]; rfl
  refine AWP.seqReg (by kernel_rfl) (fun E K hE hK => ?_); simp -implicitDefEqProofs only [go_sem, ↓reduceIte, Nat.reduceEqDiff, Nat.reduceAdd, Nat.reduceMul, Nat.reduceLT, Nat.reduceLeDiff, reduceCtorEq, Int.toNat_natCast, e15, e16]; refine hK _ _ _ ?_; clear hE hK K E
  refine AWP.seq ?_
  by_cases hlt : (i : Int) < (parts (bl s)).length
  · refine AWP.ifT (by simp -implicitDefEqProofs only [go_sem, ↓reduceIte, Nat.reduceEqDiff, Nat.reduceAdd, Nat.reduceMul, Nat.reduceLT, Nat.reduceLeDiff, reduceCtorEq, Int.toNat_natCast, hlt]) ?_
    refine AWP.skip ?_
    simp -implicitDefEqProofs only [go_sem, ↓reduceIte, Nat.reduceEqDiff, Nat.reduceAdd, Nat.reduceMul, Nat.reduceLT, Nat.reduceLeDiff, reduceCtorEq, Int.toNat_natCast]
    refine AWP.seq ?_
    refine AWP.block ?_
    have hi2 : i < (parts (bl s)).length := by omega
    have hst := goC_step ks (parts (bl s)) i hi2
    have hws := wt_take_succ (parts (bl s)) i hi2
    obtain ⟨p, hp⟩ : ∃ p, (parts (bl s))[i] = p := ⟨_, rfl⟩
    rw [hp] at hst hws
    have hge : ((parts (bl s)).map encS).getD i [] = [.v (.string (mkS p))] := by rw [encS_getD _ i hi2, hp]
    refine AWP.seqReg (by kernel_rfl) (fun E K hE hK => ?_); simp -implicitDefEqProofs only [go_sem, ↓reduceIte, Nat.reduceEqDiff, Nat.reduceAdd, Nat.reduceMul, Nat.reduceLT, Nat.reduceLeDiff, reduceCtorEq, Int.toNat_natCast, e14, e16, List.length_map, hlt, hge]
    refine ⟨by omega, ?_⟩
    refine hK _ _ _ ?_; clear hE hK K E
    refine AWP.seq ?_
    by_cases p0 : p = []
    · refine AWP.seqReg (by kernel_rfl) (fun E K hE hK => ?_); simp -implicitDefEqProofs only [go_sem, ↓reduceIte, Nat.reduceEqDiff, Nat.reduceAdd, Nat.reduceMul, Nat.reduceLT, Nat.reduceLeDiff, reduceCtorEq, Int.toNat_natCast, mkS_list, p0, toL0]; refine hK _ _ _ ?_; clear hE hK K E
      refine AWP.ifT (by simp -implicitDefEqProofs only [go_sem, ↓reduceIte, Nat.reduceEqDiff, Nat.reduceAdd, Nat.reduceMul, Nat.reduceLT, Nat.reduceLeDiff, reduceCtorEq, Int.toNat_natCast]) ?_
      refine AWP.exit ?_
      simp -implicitDefEqProofs only [go_sem, ↓reduceIte, Nat.reduceEqDiff, Nat.reduceAdd, Nat.reduceMul, Nat.reduceLT, Nat.reduceLeDiff, reduceCtorEq, Int.toNat_natCast]
      refine AWP.reg (by kernel_rfl) (fun E K hE hK => ?_); simp -implicitDefEqProofs only [go_sem, ↓reduceIte, Nat.reduceEqDiff, Nat.reduceAdd, Nat.reduceMul, Nat.reduceLT, Nat.reduceLeDiff, reduceCtorEq, Int.toNat_natCast, e16, hw1]; refine hK _ _ _ ?_; clear hE hK K E
      refine ⟨Nat.le_refl _, _, ?_, i + 1, by omega, rfl, ver, cap, ks, ?_, hr.cut (Nat.lt_succ_self _), cutH_outer (Nat.le_succ _) ho hlow, by simp -implicitDefEqProofs only [go_sem, ↓reduceIte, Nat.reduceEqDiff, Nat.reduceAdd, Nat.reduceMul, Nat.reduceLT, Nat.reduceLeDiff, reduceCtorEq, Int.toNat_natCast, e4]; exact cutV_win (Nat.lt_succ_self _), by simp -implicitDefEqProofs only [go_sem, ↓reduceIte, Nat.reduceEqDiff, Nat.reduceAdd, Nat.reduceMul, Nat.reduceLT, Nat.reduceLeDiff, reduceCtorEq, Int.toNat_natCast, e14], by simp -implicitDefEqProofs only [go_sem, ↓reduceIte, Nat.reduceEqDiff, Nat.reduceAdd, Nat.reduceMul, Nat.reduceLT, Nat.reduceLeDiff, reduceCtorEq, Int.toNat_natCast, e15], by simp -implicitDefEqProofs only [go_sem, ↓reduceIte, Nat.reduceEqDiff, Nat.reduceAdd, Nat.reduceMul, Nat.reduceLT, Nat.reduceLeDiff, reduceCtorEq, Int.toNat_natCast], by omega, by omega⟩
      · omega
      · rw [hg, hst, p0]; rfl
    · by_cases p1 : p = [46]
      · refine AWP.seqReg (by kernel_rfl) (fun E K hE hK => ?_); simp -implicitDefEqProofs only [go_sem, ↓reduceIte, Nat.reduceEqDiff, Nat.reduceAdd, Nat.reduceMul, Nat.reduceLT, Nat.reduceLeDiff, reduceCtorEq, Int.toNat_natCast, mkS_list, p1, toL0, toL1]; refine hK _ _ _ ?_; clear hE hK K E
        refine AWP.ifT (by simp -implicitDefEqProofs only [go_sem, ↓reduceIte, Nat.reduceEqDiff, Nat.reduceAdd, Nat.reduceMul, Nat.reduceLT, Nat.reduceLeDiff, reduceCtorEq, Int.toNat_natCast]) ?_
        refine AWP.exit ?_
        simp -implicitDefEqProofs only [go_sem, ↓reduceIte, Nat.reduceEqDiff, Nat.reduceAdd, Nat.reduceMul, Nat.reduceLT, Nat.reduceLeDiff, reduceCtorEq, Int.toNat_natCast]
        refine AWP.reg (by kernel_rfl) (fun E K hE hK => ?_); simp -implicitDefEqProofs only [go_sem, ↓reduceIte, Nat.reduceEqDiff, Nat.reduceAdd, Nat.reduceMul, Nat.reduceLT, Nat.reduceLeDiff, reduceCtorEq, Int.toNat_natCast, e16, hw1]; refine hK _ _ _ ?_; clear hE hK K E
        refine ⟨Nat.le_refl _, _, ?_, i + 1, by omega, rfl, ver, cap, ks, ?_, hr.cut (Nat.lt_succ_self _), cutH_outer (Nat.le_succ _) ho hlow, by simp -implicitDefEqProofs only [go_sem, ↓reduceIte, Nat.reduceEqDiff, Nat.reduceAdd, Nat.reduceMul, Nat.reduceLT, Nat.reduceLeDiff, reduceCtorEq, Int.toNat_natCast, e4]; exact cutV_win (Nat.lt_succ_self _), by simp -implicitDefEqProofs only [go_sem, ↓reduceIte, Nat.reduceEqDiff, Nat.reduceAdd, Nat.reduceMul, Nat.reduceLT, Nat.reduceLeDiff, reduceCtorEq, Int.toNat_natCast, e14], by simp -implicitDefEqProofs only [go_sem, ↓reduceIte, Nat.reduceEqDiff, Nat.reduceAdd, Nat.reduceMul, Nat.reduceLT, Nat.reduceLeDiff, reduceCtorEq, Int.toNat_natCast, e15], by simp -implicitDefEqProofs only [go_sem, ↓reduceIte, Nat.reduceEqDiff, Nat.reduceAdd, Nat.reduceMul, Nat.reduceLT, Nat.reduceLeDiff, reduceCtorEq, Int.toNat_natCast], by omega, by omega⟩
        · omega
        · rw [hg, hst, p1]; rfl
      · refine AWP.seqReg (by kernel_rfl) (fun E K hE hK => ?_); simp -implicitDefEqProofs only [go_sem, ↓reduceIte, Nat.reduceEqDiff, Nat.reduceAdd, Nat.reduceMul, Nat.reduceLT, Nat.reduceLeDiff, reduceCtorEq, Int.toNat_natCast, mkS_list, p0, p1, toL0, toL1]; refine hK _ _ _ ?_; clear hE hK K E
        refine AWP.ifF (by simp -implicitDefEqProofs only [go_sem, ↓reduceIte, Nat.reduceEqDiff, Nat.reduceAdd, Nat.reduceMul, Nat.reduceLT, Nat.reduceLeDiff, reduceCtorEq, Int.toNat_natCast]) ?_; refine AWP.skip ?_; simp -implicitDefEqProofs only [go_sem, ↓reduceIte, Nat.reduceEqDiff, Nat.reduceAdd, Nat.reduceMul, Nat.reduceLT, Nat.reduceLeDiff, reduceCtorEq, Int.toNat_natCast]
        refine AWP.seq ?_
        refine AWP.seqReg (by kernel_rfl) (fun E K hE hK => ?_); simp -implicitDefEqProofs only [go_sem, ↓reduceIte, Nat.reduceEqDiff, Nat.reduceAdd, Nat.reduceMul, Nat.reduceLT, Nat.reduceLeDiff, reduceCtorEq, Int.toNat_natCast]; refine hK _ _ _ ?_; clear hE hK K E
        by_cases p2 : p = [46, 46]
        · refine AWP.ifF (by simp -implicitDefEqProofs only [go_sem, ↓reduceIte, Nat.reduceEqDiff, Nat.reduceAdd, Nat.reduceMul, Nat.reduceLT, Nat.reduceLeDiff, reduceCtorEq, Int.toNat_natCast, mkS_list, p2, toL2]) ?_; refine AWP.skip ?_; simp -implicitDefEqProofs only [go_sem, ↓reduceIte, Nat.reduceEqDiff, Nat.reduceAdd, Nat.reduceMul, Nat.reduceLT, Nat.reduceLeDiff, reduceCtorEq, Int.toNat_natCast]
          refine AWP.seq ?_
          obtain ⟨T, r1, r2, r3⟩ := hr
          refine AWP.seqReg (by kernel_rfl) (fun E K hE hK => ?_); simp -implicitDefEqProofs only [go_sem, ↓reduceIte, Nat.reduceEqDiff, Nat.reduceAdd, Nat.reduceMul, Nat.reduceLT, Nat.reduceLeDiff, reduceCtorEq, Int.toNat_natCast, e4, r1]; refine hK _ _ _ ?_; clear hE hK K E
          by_cases hk : ks = []
          · subst hk
            refine AWP.ifT (by simp -implicitDefEqProofs only [go_sem, ↓reduceIte, Nat.reduceEqDiff, Nat.reduceAdd, Nat.reduceMul, Nat.reduceLT, Nat.reduceLeDiff, reduceCtorEq, Int.toNat_natCast, List.length_nil, int_c0]) ?_
            refine AWP.seqReg (by kernel_rfl) (fun E K hE hK => ?_); simp -implicitDefEqProofs only [go_sem, ↓reduceIte, Nat.reduceEqDiff, Nat.reduceAdd, Nat.reduceMul, Nat.reduceLT, Nat.reduceLeDiff, reduceCtorEq, Int.toNat_natCast]; refine hK _ _ _ ?_; clear hE hK K E
            refine AWP.ret ?_
            simp -implicitDefEqProofs only [go_sem, ↓reduceIte, Nat.reduceEqDiff, Nat.reduceAdd, Nat.reduceMul, Nat.reduceLT, Nat.reduceLeDiff, reduceCtorEq, Int.toNat_natCast]
            refine fin _ _ _ ([], 4) (by (first | (simp -implicitDefEqProofs only [go_sem, ↓reduceIte, Nat.reduceEqDiff, Nat.reduceAdd, Nat.reduceMul, Nat.reduceLT, Nat.reduceLeDiff, reduceCtorEq, Int.toNat_natCast]; done) | (simp -implicitDefEqProofs only [go_sem, ↓reduceIte, Nat.reduceEqDiff, Nat.reduceAdd, Nat.reduceMul, Nat.reduceLT, Nat.reduceLeDiff, reduceCtorEq, Int.toNat_natCast]; rfl) | rfl)) (by (first | (simp -implicitDefEqProofs only [go_sem, ↓reduceIte, Nat.reduceEqDiff, Nat.reduceAdd, Nat.reduceMul, Nat.reduceLT, Nat.reduceLeDiff, reduceCtorEq, Int.toNat_natCast]; done) | (simp -implicitDefEqProofs only [go_sem, ↓reduceIte, Nat.reduceEqDiff, Nat.reduceAdd, Nat.reduceMul, Nat.reduceLT, Nat.reduceLeDiff, reduceCtorEq, Int.toNat_natCast]; rfl) | rfl)) ho ?_
            unfold cleanX
            rw [if_neg (by simp [hf]), hg, hst, p2]; rfl
          · have hkl := List.length_pos_iff.2 hk
            have hk2 : ¬ ((ks.length : Int) = 0) := by omega
            refine AWP.ifF (by simp -implicitDefEqProofs only [go_sem, ↓reduceIte, Nat.reduceEqDiff, Nat.reduceAdd, Nat.reduceMul, Nat.reduceLT, Nat.reduceLeDiff, reduceCtorEq, Int.toNat_natCast, hk2]) ?_; refine AWP.skip ?_; simp -implicitDefEqProofs only [go_sem, ↓reduceIte, Nat.reduceEqDiff, Nat.reduceAdd, Nat.reduceMul, Nat.reduceLT, Nat.reduceLeDiff, reduceCtorEq, Int.toNat_natCast]
            have hwm : IntKind.i64.wrap ((ks.length : Int) - 1) = ((ks.length - 1 : Nat) : Int) := by rw [wrap_i64 (by omega) (by omega)]; omega
            have hrow : hh b = some (rowB ver (ks.map encS) T) := by rw [r1, rowB, flat_str]
            refine AWP.reg (by kernel_rfl) (fun E K hE hK => ?_); simp -implicitDefEqProofs only [go_sem, ↓reduceIte, Nat.reduceEqDiff, Nat.reduceAdd, Nat.reduceMul, Nat.reduceLT, Nat.reduceLeDiff, reduceCtorEq, Int.toNat_natCast, e4, r1, hwm]
            refine ⟨⟨by omega, by omega⟩, ?_⟩
            refine BiR.of ?_
            refine BiK.append_nil (e := 9) (sz := 1) (bytes := 16) (m := ks.length - 1) ty_slE_38 ty_tsz_9 ty_tzero_9 rfl ty_tby_9 ty_isIntT_38 (srcA_row (sz := 1) (m := ks.length - 1) (es := ks.map encS) (T := T) 0 hrow (okEs_str ks) (by rw [List.length_map]; omega) (.inl rfl)) (okEs_flat (fun e he => okEs_str ks e (List.mem_of_mem_drop (List.mem_of_mem_take he))) _) (by omega) (by decide) (by omega) (fun cap' j q1 q2 => ?_)
            have hdl : ((List.take (ks.length - 1) (List.drop 0 (ks.map encS))).flatten.map Cell.p) = ks.dropLast.map strC := by
              rw [List.drop_zero, ← List.map_take, flat_str, List.dropLast_eq_take]
            rw [hdl]
            have hdll : ks.length - 1 = ks.dropLast.length := by simp
            rw [hdll]
            simp -implicitDefEqProofs only [go_sem, ↓reduceIte, Nat.reduceEqDiff, Nat.reduceAdd, Nat.reduceMul, Nat.reduceLT, Nat.reduceLeDiff, reduceCtorEq, Int.toNat_natCast]
            refine hK _ _ _ ?_; clear hE hK K E
            simp -implicitDefEqProofs only [go_sem, ↓reduceIte, Nat.reduceEqDiff, Nat.reduceAdd, Nat.reduceMul, Nat.reduceLT, Nat.reduceLeDiff, reduceCtorEq, Int.toNat_natCast]
            refine AWP.rehome 4 (b + 1) b (Nat.le_succ _) (Nat.le_refl _) (by omega) (by (first | (simp -implicitDefEqProofs only [go_sem, ↓reduceIte, Nat.reduceEqDiff, Nat.reduceAdd, Nat.reduceMul, Nat.reduceLT, Nat.reduceLeDiff, reduceCtorEq, Int.toNat_natCast]; done) | (simp -implicitDefEqProofs only [go_sem, ↓reduceIte, Nat.reduceEqDiff, Nat.reduceAdd, Nat.reduceMul, Nat.reduceLT, Nat.reduceLeDiff, reduceCtorEq, Int.toNat_natCast]; rfl) | rfl)) (by (first | (simp -implicitDefEqProofs only [go_sem, ↓reduceIte, Nat.reduceEqDiff, Nat.reduceAdd, Nat.reduceMul, Nat.reduceLT, Nat.reduceLeDiff, reduceCtorEq, Int.toNat_natCast]; done) | (simp -implicitDefEqProofs only [go_sem, ↓reduceIte, Nat.reduceEqDiff, Nat.reduceAdd, Nat.reduceMul, Nat.reduceLT, Nat.reduceLeDiff, reduceCtorEq, Int.toNat_natCast]; rfl) | rfl)) (by (first | (simp -implicitDefEqProofs only [go_sem, ↓reduceIte, Nat.reduceEqDiff, Nat.reduceAdd, Nat.reduceMul, Nat.reduceLT, Nat.reduceLeDiff, reduceCtorEq, Int.toNat_natCast, r1]; done) | (simp -implicitDefEqProofs only [go_sem, ↓reduceIte, Nat.reduceEqDiff, Nat.reduceAdd, Nat.reduceMul, Nat.reduceLT, Nat.reduceLeDiff, reduceCtorEq, Int.toNat_natCast, r1]; rfl) | rfl)) ?_
            simp -implicitDefEqProofs only [go_sem, ↓reduceIte, Nat.reduceEqDiff, Nat.reduceAdd, Nat.reduceMul, Nat.reduceLT, Nat.reduceLeDiff, reduceCtorEq, Int.toNat_natCast]
            refine AWP.reg (by kernel_rfl) (fun E K hE hK => ?_); simp -implicitDefEqProofs only [go_sem, ↓reduceIte, Nat.reduceEqDiff, Nat.reduceAdd, Nat.reduceMul, Nat.reduceLT, Nat.reduceLeDiff, reduceCtorEq, Int.toNat_natCast, e16, hw1]; refine hK _ _ _ ?_; clear hE hK K E
            refine ⟨(by decide : 1 ≤ 2), _, ?_, i + 1, by omega, rfl, ver + 1, cap', ks.dropLast, ?_, StrRow.cut ⟨List.replicate j .junk, by (first | (simp -implicitDefEqProofs only [go_sem, ↓reduceIte, Nat.reduceEqDiff, Nat.reduceAdd, Nat.reduceMul, Nat.reduceLT, Nat.reduceLeDiff, reduceCtorEq, Int.toNat_natCast]; done) | (simp -implicitDefEqProofs only [go_sem, ↓reduceIte, Nat.reduceEqDiff, Nat.reduceAdd, Nat.reduceMul, Nat.reduceLT, Nat.reduceLeDiff, reduceCtorEq, Int.toNat_natCast]; rfl) | rfl), by simp; omega, lowCs_junk _ _⟩ (Nat.lt_succ_self _), cutH_outer (Nat.le_succ _) (fun id hid => ?_) hlow, by simp -implicitDefEqProofs only [go_sem, ↓reduceIte, Nat.reduceEqDiff, Nat.reduceAdd, Nat.reduceMul, Nat.reduceLT, Nat.reduceLeDiff, reduceCtorEq, Int.toNat_natCast]; exact cutV_win (Nat.lt_succ_self _), by simp -implicitDefEqProofs only [go_sem, ↓reduceIte, Nat.reduceEqDiff, Nat.reduceAdd, Nat.reduceMul, Nat.reduceLT, Nat.reduceLeDiff, reduceCtorEq, Int.toNat_natCast, e14], by simp -implicitDefEqProofs only [go_sem, ↓reduceIte, Nat.reduceEqDiff, Nat.reduceAdd, Nat.reduceMul, Nat.reduceLT, Nat.reduceLeDiff, reduceCtorEq, Int.toNat_natCast, e15], by simp -implicitDefEqProofs only [go_sem, ↓reduceIte, Nat.reduceEqDiff, Nat.reduceAdd, Nat.reduceMul, Nat.reduceLT, Nat.reduceLeDiff, reduceCtorEq, Int.toNat_natCast], by simp; omega, by have := wt_dropLast ks; omega⟩
            · omega
            · rw [hg, hst, p2]; simp [stepC, hk]
            · simp -implicitDefEqProofs only [go_sem, ↓reduceIte, Nat.reduceEqDiff, Nat.reduceAdd, Nat.reduceMul, Nat.reduceLT, Nat.reduceLeDiff, reduceCtorEq, Int.toNat_natCast, delH, show ¬ id = b by omega, show ¬ id = b + 1 by omega, ho id hid]
        · refine AWP.ifT (by simp -implicitDefEqProofs only [go_sem, ↓reduceIte, Nat.reduceEqDiff, Nat.reduceAdd, Nat.reduceMul, Nat.reduceLT, Nat.reduceLeDiff, reduceCtorEq, Int.toNat_natCast, mkS_list, p2, toL2]) ?_
          refine AWP.seqReg (by kernel_rfl) (fun E K hE hK => ?_); simp -implicitDefEqProofs only [go_sem, ↓reduceIte, Nat.reduceEqDiff, Nat.reduceAdd, Nat.reduceMul, Nat.reduceLT, Nat.reduceLeDiff, reduceCtorEq, Int.toNat_natCast, e4]
          refine BiR.of ?_
          refine append_str (p := p) (hr.ne (by omega)) (by (first | (simp -implicitDefEqProofs only [go_sem, ↓reduceIte, Nat.reduceEqDiff, Nat.reduceAdd, Nat.reduceMul, Nat.reduceLT, Nat.reduceLeDiff, reduceCtorEq, Int.toNat_natCast]; done) | (simp -implicitDefEqProofs only [go_sem, ↓reduceIte, Nat.reduceEqDiff, Nat.reduceAdd, Nat.reduceMul, Nat.reduceLT, Nat.reduceLeDiff, reduceCtorEq, Int.toNat_natCast]; rfl) | rfl)) (by omega) (fun cap' T' q1 q2 => ?_)
          simp -implicitDefEqProofs only [go_sem, ↓reduceIte, Nat.reduceEqDiff, Nat.reduceAdd, Nat.reduceMul, Nat.reduceLT, Nat.reduceLeDiff, reduceCtorEq, Int.toNat_natCast]
          refine hK _ _ _ ?_; clear hE hK K E
          refine AWP.exit ?_
          simp -implicitDefEqProofs only [go_sem, ↓reduceIte, Nat.reduceEqDiff, Nat.reduceAdd, Nat.reduceMul, Nat.reduceLT, Nat.reduceLeDiff, reduceCtorEq, Int.toNat_natCast]
          refine AWP.reg (by kernel_rfl) (fun E K hE hK => ?_); simp -implicitDefEqProofs only [go_sem, ↓reduceIte, Nat.reduceEqDiff, Nat.reduceAdd, Nat.reduceMul, Nat.reduceLT, Nat.reduceLeDiff, reduceCtorEq, Int.toNat_natCast, e16, hw1]; refine hK _ _ _ ?_; clear hE hK K E
          refine ⟨(by decide : 1 ≤ 2), _, ?_, i + 1, by omega, rfl, ver + 1, cap', ks ++ [p], ?_, StrRow.cut ⟨T', by (first | (simp -implicitDefEqProofs only [go_sem, ↓reduceIte, Nat.reduceEqDiff, Nat.reduceAdd, Nat.reduceMul, Nat.reduceLT, Nat.reduceLeDiff, reduceCtorEq, Int.toNat_natCast]; done) | (simp -implicitDefEqProofs only [go_sem, ↓reduceIte, Nat.reduceEqDiff, Nat.reduceAdd, Nat.reduceMul, Nat.reduceLT, Nat.reduceLeDiff, reduceCtorEq, Int.toNat_natCast]; rfl) | rfl), by simpa using q1, q2⟩ (Nat.lt_succ_self _), cutH_outer (Nat.le_succ _) (fun id (hid : id < b) => by simp -implicitDefEqProofs only [go_sem, ↓reduceIte, Nat.reduceEqDiff, Nat.reduceAdd, Nat.reduceMul, Nat.reduceLT, Nat.reduceLeDiff, reduceCtorEq, Int.toNat_natCast, show ¬ id = b by omega, show ¬ id = b + 1 by omega, ho id hid]) hlow, by rw [List.length_append]; simp -implicitDefEqProofs only [go_sem, ↓reduceIte, Nat.reduceEqDiff, Nat.reduceAdd, Nat.reduceMul, Nat.reduceLT, Nat.reduceLeDiff, reduceCtorEq, Int.toNat_natCast]; exact cutV_win (Nat.lt_succ_self _), by simp -implicitDefEqProofs only [go_sem, ↓reduceIte, Nat.reduceEqDiff, Nat.reduceAdd, Nat.reduceMul, Nat.reduceLT, Nat.reduceLeDiff, reduceCtorEq, Int.toNat_natCast, e14], by simp -implicitDefEqProofs only [go_sem, ↓reduceIte, Nat.reduceEqDiff, Nat.reduceAdd, Nat.reduceMul, Nat.reduceLT, Nat.reduceLeDiff, reduceCtorEq, Int.toNat_natCast, e15], by simp -implicitDefEqProofs only [go_sem, ↓reduceIte, Nat.reduceEqDiff, Nat.reduceAdd, Nat.reduceMul, Nat.reduceLT, Nat.reduceLeDiff, reduceCtorEq, Int.toNat_natCast], by simp; omega, by rw [wt_app]; omega⟩
          · omega
          · rw [hg, hst]; unfold stepC; rw [if_neg (by simp [p0, p1]), if_neg p2]
  · refine AWP.ifF (by simp -implicitDefEqProofs only [go_sem, ↓reduceIte, Nat.reduceEqDiff, Nat.reduceAdd, Nat.reduceMul, Nat.reduceLT, Nat.reduceLeDiff, reduceCtorEq, Int.toNat_natCast, hlt]) ?_
    refine AWP.exit ?_
    simp -implicitDefEqProofs only [go_sem, ↓reduceIte, Nat.reduceEqDiff, Nat.reduceAdd, Nat.reduceMul, Nat.reduceLT, Nat.reduceLeDiff, reduceCtorEq, Int.toNat_natCast]
    have hii : i = (parts (bl s)).length := by omega
    subst hii
    rw [List.drop_length] at hg
    rw [List.take_length] at hkw
    have hg : goC [] (parts (bl s)) = some ks := hg
    obtain ⟨T, r1, r2, r3⟩ := hr
    have hrow : hh b = some (rowB ver (ks.map encS) T) := by rw [r1, rowB, flat_str]
    refine AWP.frz 4 (cap := cap) (len := ks.length) 1 (ks.map encS) (by (first | (simp -implicitDefEqProofs only [go_sem, ↓reduceIte, Nat.reduceEqDiff, Nat.reduceAdd, Nat.reduceMul, Nat.reduceLT, Nat.reduceLeDiff, reduceCtorEq, Int.toNat_natCast, e4]; done) | (simp -implicitDefEqProofs only [go_sem, ↓reduceIte, Nat.reduceEqDiff, Nat.reduceAdd, Nat.reduceMul, Nat.reduceLT, Nat.reduceLeDiff, reduceCtorEq, Int.toNat_natCast, e4]; rfl) | rfl)) hrow rfl (by rw [List.length_map]) (okEs_str ks).len (row_cells (okEs_str ks) ver T) ?_
    have hdel : ∀ id, id < b → delH hh b id = h id := fun id hid => by unfold delH; rw [if_neg (by omega)]; exact ho id hid
    have hcx : cleanX (bl s) = if ks = [] then ([], 1) else (joinS ks, 0) := by
      unfold cleanX
      rw [if_neg (by simp [hf]), hg]
      cases ks <;> rfl
    refine AWP.seq ?_
    refine AWP.seqReg (by kernel_rfl) (fun E K hE hK => ?_); simp -implicitDefEqProofs only [go_sem, ↓reduceIte, Nat.reduceEqDiff, Nat.reduceAdd, Nat.reduceMul, Nat.reduceLT, Nat.reduceLeDiff, reduceCtorEq, Int.toNat_natCast, List.length_map]; refine hK _ _ _ ?_; clear hE hK K E
    by_cases hk : ks = []
    · subst hk
      refine AWP.ifT (by simp -implicitDefEqProofs only [go_sem, ↓reduceIte, Nat.reduceEqDiff, Nat.reduceAdd, Nat.reduceMul, Nat.reduceLT, Nat.reduceLeDiff, reduceCtorEq, Int.toNat_natCast, List.length_nil, int_c0]) ?_
      refine AWP.seqReg (by kernel_rfl) (fun E K hE hK => ?_); simp -implicitDefEqProofs only [go_sem, ↓reduceIte, Nat.reduceEqDiff, Nat.reduceAdd, Nat.reduceMul, Nat.reduceLT, Nat.reduceLeDiff, reduceCtorEq, Int.toNat_natCast]; refine hK _ _ _ ?_; clear hE hK K E
      refine AWP.ret ?_
      simp -implicitDefEqProofs only [go_sem, ↓reduceIte, Nat.reduceEqDiff, Nat.reduceAdd, Nat.reduceMul, Nat.reduceLT, Nat.reduceLeDiff, reduceCtorEq, Int.toNat_natCast]
      exact fin _ _ _ ([], 1) (by (first | (simp -implicitDefEqProofs only [go_sem, ↓reduceIte, Nat.reduceEqDiff, Nat.reduceAdd, Nat.reduceMul, Nat.reduceLT, Nat.reduceLeDiff, reduceCtorEq, Int.toNat_natCast]; done) | (simp -implicitDefEqProofs only [go_sem, ↓reduceIte, Nat.reduceEqDiff, Nat.reduceAdd, Nat.reduceMul, Nat.reduceLT, Nat.reduceLeDiff, reduceCtorEq, Int.toNat_natCast]; rfl) | rfl)) (by (first | (simp -implicitDefEqProofs only [go_sem, ↓reduceIte, Nat.reduceEqDiff, Nat.reduceAdd, Nat.reduceMul, Nat.reduceLT, Nat.reduceLeDiff, reduceCtorEq, Int.toNat_natCast]; done) | (simp -implicitDefEqProofs only [go_sem, ↓reduceIte, Nat.reduceEqDiff, Nat.reduceAdd, Nat.reduceMul, Nat.reduceLT, Nat.reduceLeDiff, reduceCtorEq, Int.toNat_natCast]; rfl) | rfl)) hdel (by rw [hcx, if_pos rfl])
    · have hk2 : ¬ ((ks.length : Int) = 0) := by have := List.length_pos_iff.2 hk; omega
      refine AWP.ifF (by simp -implicitDefEqProofs only [go_sem, ↓reduceIte, Nat.reduceEqDiff, Nat.reduceAdd, Nat.reduceMul, Nat.reduceLT, Nat.reduceLeDiff, reduceCtorEq, Int.toNat_natCast, hk2]) ?_; refine AWP.skip ?_; simp -implicitDefEqProofs only [go_sem, ↓reduceIte, Nat.reduceEqDiff, Nat.reduceAdd, Nat.reduceMul, Nat.reduceLT, Nat.reduceLeDiff, reduceCtorEq, Int.toNat_natCast]
      refine AWP.seqReg (by kernel_rfl) (fun E K hE hK => ?_); simp -implicitDefEqProofs only [go_sem, ↓reduceIte, Nat.reduceEqDiff, Nat.reduceAdd, Nat.reduceMul, Nat.reduceLT, Nat.reduceLeDiff, reduceCtorEq, Int.toNat_natCast]
      refine CallR.use (joinL_ok ks (by omega) _ _) body_32 ?_; rintro _ h_ ⟨rfl, e_⟩; rw [e_]; clear e_ h_; simp -implicitDefEqProofs only [go_sem, ↓reduceIte, Nat.reduceEqDiff, Nat.reduceAdd, Nat.reduceMul, Nat.reduceLT, Nat.reduceLeDiff, reduceCtorEq, Int.toNat_natCast]
      refine hK _ _ _ ?_; clear hE hK K E
      refine AWP.ret ?_
      exact fin _ _ _ (joinS ks, 0) (by (first | (simp -implicitDefEqProofs only [go_sem, ↓reduceIte, Nat.reduceEqDiff, Nat.reduceAdd, Nat.reduceMul, Nat.reduceLT, Nat.reduceLeDiff, reduceCtorEq, Int.toNat_natCast]; done) | (simp -implicitDefEqProofs only [go_sem, ↓reduceIte, Nat.reduceEqDiff, Nat.reduceAdd, Nat.reduceMul, Nat.reduceLT, Nat.reduceLeDiff, reduceCtorEq, Int.toNat_natCast]; rfl) | rfl)) (by (first | (simp -implicitDefEqProofs only [go_sem, ↓reduceIte, Nat.reduceEqDiff, Nat.reduceAdd, Nat.reduceMul, Nat.reduceLT, Nat.reduceLeDiff, reduceCtorEq, Int.toNat_natCast]; done) | (simp -implicitDefEqProofs only [go_sem, ↓reduceIte, Nat.reduceEqDiff, Nat.reduceAdd, Nat.reduceMul, Nat.reduceLT, Nat.reduceLeDiff, reduceCtorEq, Int.toNat_natCast]; rfl) | rfl)) hdel (by rw [hcx, if_neg hk])

end Go.Proofs.YtdannmfdenlikaaDoor
