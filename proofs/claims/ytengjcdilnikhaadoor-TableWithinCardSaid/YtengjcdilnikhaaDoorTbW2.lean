/-
  Walks of package table: the search, find.
-/
import Derived.Test.YtengjcdilnikhaaDoorTbW1
namespace Go.Proofs.YtengjcdilnikhaaDoor
set_option linter.unusedSimpArgs false
set_option linter.unusedVariables false
set_option linter.unnecessarySimpa false
open Go Am
set_option maxRecDepth 100000

def bsI (l : List Fl) (p : S) (h : Heap) (i j : Nat) (st : St) : Prop :=
  st.h = h ∧ st.t 0 = FlsV l ∧ st.t 1 = StrV p ∧ st.t 2 = .one (.clo (.func 78) [] []) ∧ st.t 8 = IntV l.length ∧ st.t 9 = IntV (i : Nat) ∧ st.t 10 = IntV (j : Nat)

theorem bsearch_ok (l : List Fl) (p : S) (hl : l.length ≤ 1000000) (ht : checkT l = 0) (hp : chkN p = 0) (h : Heap) (b : Nat) :
    ACalls Tryd.prog 109 [FlsV l, StrV p, .one (.clo (.func 78) [] [])] h b 0 (fun r h' => r = .tup [IntV (kL p l), BoolV (hasL p l)] ∧ h' = h) := by
  refine ACalls.enter Tryd.func109 rfl (by simp [Tryd.ntmps109]) (fun ι w hn H => ?_)
  have hlm : (l.map encF).length = l.length := List.length_map _
  have htab := (checkT_zero.1 ht).2
  have hkl := kL_le p l
  have hcmp : ∀ f ∈ l, (cmpN f.name p).1 = cK f.name p := fun f hf => by rw [cmpN_ok (chkN_zero.1 (mayF_chk (tabF_may htab f hf))) (chkN_zero.1 hp)]
  refine AWP.seqReg (by kernel_rfl) (fun E K hE hK => ?_); simp -implicitDefEqProofs only [go_sem, ↓reduceIte, Nat.reduceEqDiff, Nat.reduceAdd, Nat.reduceMul, Nat.reduceLT, Nat.reduceLeDiff, reduceCtorEq, Int.toNat_natCast]; refine hK _ _ _ ?_; clear hE hK K E
  refine AWP.seqReg (by kernel_rfl) (fun E K hE hK => ?_); simp -implicitDefEqProofs only [go_sem, ↓reduceIte, Nat.reduceEqDiff, Nat.reduceAdd, Nat.reduceMul, Nat.reduceLT, Nat.reduceLeDiff, reduceCtorEq, Int.toNat_natCast, hlm]; refine hK _ _ _ ?_; clear hE hK K E
  refine AWP.seqReg (by kernel_rfl) (fun E K hE hK => ?_); simp -implicitDefEqProofs only [go_sem, ↓reduceIte, Nat.reduceEqDiff, Nat.reduceAdd, Nat.reduceMul, Nat.reduceLT, Nat.reduceLeDiff, reduceCtorEq, Int.toNat_natCast, hlm]; refine hK _ _ _ ?_; clear hE hK K E
  refine AWP.seq ?_
  refine AWP.block ?_
  refine AWP.loopK 0 (fun m st => ∃ i j, i ≤ kL p l ∧ kL p l ≤ j ∧ j ≤ l.length ∧ m = j - i ∧ bsI l p h i j st) l.length rfl ⟨0, l.length, Nat.zero_le _, hkl, Nat.le_refl _, rfl, rfl, by (first | (simp -implicitDefEqProofs only [go_sem, ↓reduceIte, Nat.reduceEqDiff, Nat.reduceAdd, Nat.reduceMul, Nat.reduceLT, Nat.reduceLeDiff, reduceCtorEq, Int.toNat_natCast]; done) | (simp -implicitDefEqProofs only [go_sem, ↓reduceIte, Nat.reduceEqDiff, Nat.reduceAdd, Nat.reduceMul, Nat.reduceLT, Nat.reduceLeDiff, reduceCtorEq, Int.toNat_natCast]; rfl) | rfl), by (first | (simp -implicitDefEqProofs only [go_sem, ↓reduceIte, Nat.reduceEqDiff, Nat.reduceAdd, Nat.reduceMul, Nat.reduceLT, Nat.reduceLeDiff, reduceCtorEq, Int.toNat_natCast]; done) | (simp -implicitDefEqProofs only [go_sem, ↓reduceIte, Nat.reduceEqDiff, Nat.reduceAdd, Nat.reduceMul, Nat.reduceLT, Nat.reduceLeDiff, reduceCtorEq, Int.toNat_natCast]; rfl) | rfl), by (first | (simp -implicitDefEqProofs only [go_sem, ↓reduceIte, Nat.reduceEqDiff, Nat.reduceAdd, Nat.reduceMul, Nat.reduceLT, Nat.reduceLeDiff, reduceCtorEq, Int.toNat_natCast]; done) | (simp -implicitDefEqProofs only [go_sem, ↓reduceIte, Nat.reduceEqDiff, Nat.reduceAdd, Nat.reduceMul, Nat.reduceLT, Nat.reduceLeDiff, reduceCtorEq, Int.toNat_natCast]; rfl) | rfl), by (first | (simp -implicitDefEqProofs only [go_sem, ↓reduceIte, Nat.reduceEqDiff, Nat.reduceAdd, Nat.reduceMul, Nat.reduceLT, Nat.reduceLeDiff, reduceCtorEq, Int.toNat_natCast]; done) | (simp -implicitDefEqProofs only [go_sem, ↓reduceIte, Nat.reduceEqDiff, Nat.reduceAdd, Nat.reduceMul, Nat.reduceLT, Nat.reduceLeDiff, reduceCtorEq, Int.toNat_natCast]; rfl) | rfl), by (first | (simp -implicitDefEqProofs only [go_sem, ↓reduceIte, Nat.reduceEqDiff, Nat.reduceAdd, Nat.reduceMul, Nat.reduceLT, Nat.reduceLeDiff, reduceCtorEq, Int.toNat_natCast]; done) | (simp -implicitDefEqProofs only [go_sem, ↓reduceIte, Nat.reduceEqDiff, Nat.reduceAdd, Nat.reduceMul, Nat.reduceLT, Nat.reduceLeDiff, reduceCtorEq, Int.toNat_natCast]; rfl) | rfl), by (first | (simp -implicitDefEqProofs only [go_sem, ↓reduceIte, Nat.reduceEqDiff, Nat.reduceAdd, Nat.reduceMul, Nat.reduceLT, Nat.reduceLeDiff, reduceCtorEq, Int.toNat_natCast]; done) | (simp -implicitDefEqProofs only [go_sem, ↓reduceIte, Nat.reduceEqDiff, Nat.reduceAdd, Nat.reduceMul, Nat.reduceLT, Nat.reduceLeDiff, reduceCtorEq, Int.toNat_natCast]; rfl) | rfl)⟩ ?_
  rintro m ⟨t, hh, n⟩ ⟨i, j, hik, hkj, hj, rfl, rfl, e0, e1, e2, e8, e9, e10⟩ hn1
  simp only at e0 e1 e2 e8 e9 e10 hn1
  subst hn1
  refine AWP.seq ?_
  refine AWP.seqReg (by kernel_rfl) (fun E K hE hK => ?_); simp -implicitDefEqProofs only [go_sem, ↓reduceIte, Nat.reduceEqDiff, Nat.reduceAdd, Nat.reduceMul, Nat.reduceLT, Nat.reduceLeDiff, reduceCtorEq, Int.toNat_natCast, e9, e10]; refine hK _ _ _ ?_; clear hE hK K E
  by_cases hlt : (i : Int) < j
  · refine AWP.ifT (by simp -implicitDefEqProofs only [go_sem, ↓reduceIte, Nat.reduceEqDiff, Nat.reduceAdd, Nat.reduceMul, Nat.reduceLT, Nat.reduceLeDiff, reduceCtorEq, Int.toNat_natCast, hlt]) ?_
    refine AWP.skip ?_
    simp -implicitDefEqProofs only [go_sem, ↓reduceIte, Nat.reduceEqDiff, Nat.reduceAdd, Nat.reduceMul, Nat.reduceLT, Nat.reduceLeDiff, reduceCtorEq, Int.toNat_natCast]
    refine AWP.block ?_
    obtain ⟨c, hc⟩ : ∃ c, (i + j) / 2 = c := ⟨_, rfl⟩
    have hci : i ≤ c ∧ c < j := by omega
    have hsum : IntKind.i64.wrap ((i : Int) + j) = ((i + j : Nat) : Int) := by rw [wrap_i64 (by omega) (by omega)]; omega
    have hu : IntKind.u64.wrap ((i + j : Nat) : Int) = ((i + j : Nat) : Int) := IntWalk.u64_in _ ⟨by omega, by omega⟩
    have h10 : ¬ (1 : Int) < 0 := by decide
    have hfd : Int.fdiv ((i + j : Nat) : Int) (2 ^ min (Int.toNat 1) 64) = (c : Int) := by
      rw [← hc, show ((2 : Int) ^ min (Int.toNat 1) 64) = 2 from rfl, Int.fdiv_eq_ediv_of_nonneg _ (by decide)]; omega
    have hback : IntKind.i64.wrap (c : Int) = (c : Int) := wrap_i64 (by omega) (by omega)
    have hcl : c < l.length := by omega
    have hge := encF_getD l c hcl
    obtain ⟨f, hf⟩ : ∃ f, l[c] = f := ⟨_, rfl⟩
    rw [hf] at hge
    have hfm : f ∈ l := by rw [← hf]; exact List.getElem_mem hcl
    have hcm := hcmp f hfm
    have hlt3 : (c : Int) < l.length := by omega
    have hw1 : IntKind.i64.wrap ((c : Int) + 1) = ((c + 1 : Nat) : Int) := by rw [wrap_i64 (by omega) (by omega)]; rfl
    refine AWP.seqReg (by kernel_rfl) (fun E K hE hK => ?_); simp -implicitDefEqProofs only [go_sem, ↓reduceIte, Nat.reduceEqDiff, Nat.reduceAdd, Nat.reduceMul, Nat.reduceLT, Nat.reduceLeDiff, reduceCtorEq, Int.toNat_natCast, e9, e10, hsum, hu, h10, hfd, hback]; refine hK _ _ _ ?_; clear hE hK K E
    refine AWP.seqReg (by kernel_rfl) (fun E K hE hK => ?_); simp -implicitDefEqProofs only [go_sem, ↓reduceIte, Nat.reduceEqDiff, Nat.reduceAdd, Nat.reduceMul, Nat.reduceLT, Nat.reduceLeDiff, reduceCtorEq, Int.toNat_natCast, e0, e1, e2, hlm, hlt3, hge]
    refine ⟨by omega, ?_⟩
    refine CallR.use (order_ok f p _ _) body_78 ?_; rintro _ h_ ⟨rfl, e_⟩; rw [e_]; clear e_ h_; simp -implicitDefEqProofs only [go_sem, ↓reduceIte, Nat.reduceEqDiff, Nat.reduceAdd, Nat.reduceMul, Nat.reduceLT, Nat.reduceLeDiff, reduceCtorEq, Int.toNat_natCast]
    simp -implicitDefEqProofs only [go_sem, ↓reduceIte, Nat.reduceEqDiff, Nat.reduceAdd, Nat.reduceMul, Nat.reduceLT, Nat.reduceLeDiff, reduceCtorEq, Int.toNat_natCast, hcm]
    refine hK _ _ _ ?_; clear hE hK K E
    by_cases hneg : cK f.name p < 0
    · have hk : c < kL p l := by
        by_cases q : c < kL p l
        · exact q
        · exact absurd (by rw [hf]; exact hneg) (kL_hi (q := none) hcl htab (by omega))
      refine AWP.ifT (by simp -implicitDefEqProofs only [go_sem, ↓reduceIte, Nat.reduceEqDiff, Nat.reduceAdd, Nat.reduceMul, Nat.reduceLT, Nat.reduceLeDiff, reduceCtorEq, Int.toNat_natCast, hneg]) ?_
      refine AWP.reg (by kernel_rfl) (fun E K hE hK => ?_); simp -implicitDefEqProofs only [go_sem, ↓reduceIte, Nat.reduceEqDiff, Nat.reduceAdd, Nat.reduceMul, Nat.reduceLT, Nat.reduceLeDiff, reduceCtorEq, Int.toNat_natCast, hw1]; refine hK _ _ _ ?_; clear hE hK K E
      exact ⟨rfl, j - (c + 1), by omega, c + 1, j, by omega, by omega, by omega, rfl, rfl, by simp -implicitDefEqProofs only [go_sem, ↓reduceIte, Nat.reduceEqDiff, Nat.reduceAdd, Nat.reduceMul, Nat.reduceLT, Nat.reduceLeDiff, reduceCtorEq, Int.toNat_natCast, e0], by simp -implicitDefEqProofs only [go_sem, ↓reduceIte, Nat.reduceEqDiff, Nat.reduceAdd, Nat.reduceMul, Nat.reduceLT, Nat.reduceLeDiff, reduceCtorEq, Int.toNat_natCast, e1], by simp -implicitDefEqProofs only [go_sem, ↓reduceIte, Nat.reduceEqDiff, Nat.reduceAdd, Nat.reduceMul, Nat.reduceLT, Nat.reduceLeDiff, reduceCtorEq, Int.toNat_natCast, e2], by simp -implicitDefEqProofs only [go_sem, ↓reduceIte, Nat.reduceEqDiff, Nat.reduceAdd, Nat.reduceMul, Nat.reduceLT, Nat.reduceLeDiff, reduceCtorEq, Int.toNat_natCast, e8], by (first | (simp -implicitDefEqProofs only [go_sem, ↓reduceIte, Nat.reduceEqDiff, Nat.reduceAdd, Nat.reduceMul, Nat.reduceLT, Nat.reduceLeDiff, reduceCtorEq, Int.toNat_natCast]; done) | (simp -implicitDefEqProofs only [go_sem, ↓reduceIte, Nat.reduceEqDiff, Nat.reduceAdd, Nat.reduceMul, Nat.reduceLT, Nat.reduceLeDiff, reduceCtorEq, Int.toNat_natCast]; rfl) | rfl), by simp -implicitDefEqProofs only [go_sem, ↓reduceIte, Nat.reduceEqDiff, Nat.reduceAdd, Nat.reduceMul, Nat.reduceLT, Nat.reduceLeDiff, reduceCtorEq, Int.toNat_natCast, e10]⟩
    · have hk : kL p l ≤ c := by
        by_cases q : kL p l ≤ c
        · exact q
        · exact absurd (by have := kL_lo (p := p) hcl (by omega); rw [hf] at this; exact this) hneg
      refine AWP.ifF (by simp -implicitDefEqProofs only [go_sem, ↓reduceIte, Nat.reduceEqDiff, Nat.reduceAdd, Nat.reduceMul, Nat.reduceLT, Nat.reduceLeDiff, reduceCtorEq, Int.toNat_natCast, hneg]) ?_
      refine AWP.reg (by kernel_rfl) (fun E K hE hK => ?_); simp -implicitDefEqProofs only [go_sem, ↓reduceIte, Nat.reduceEqDiff, Nat.reduceAdd, Nat.reduceMul, Nat.reduceLT, Nat.reduceLeDiff, reduceCtorEq, Int.toNat_natCast]; refine hK _ _ _ ?_; clear hE hK K E
      exact ⟨rfl, c - i, by omega, i, c, by omega, by omega, by omega, rfl, rfl, by simp -implicitDefEqProofs only [go_sem, ↓reduceIte, Nat.reduceEqDiff, Nat.reduceAdd, Nat.reduceMul, Nat.reduceLT, Nat.reduceLeDiff, reduceCtorEq, Int.toNat_natCast, e0], by simp -implicitDefEqProofs only [go_sem, ↓reduceIte, Nat.reduceEqDiff, Nat.reduceAdd, Nat.reduceMul, Nat.reduceLT, Nat.reduceLeDiff, reduceCtorEq, Int.toNat_natCast, e1], by simp -implicitDefEqProofs only [go_sem, ↓reduceIte, Nat.reduceEqDiff, Nat.reduceAdd, Nat.reduceMul, Nat.reduceLT, Nat.reduceLeDiff, reduceCtorEq, Int.toNat_natCast, e2], by simp -implicitDefEqProofs only [go_sem, ↓reduceIte, Nat.reduceEqDiff, Nat.reduceAdd, Nat.reduceMul, Nat.reduceLT, Nat.reduceLeDiff, reduceCtorEq, Int.toNat_natCast, e8], by simp -implicitDefEqProofs only [go_sem, ↓reduceIte, Nat.reduceEqDiff, Nat.reduceAdd, Nat.reduceMul, Nat.reduceLT, Nat.reduceLeDiff, reduceCtorEq, Int.toNat_natCast, e9], by (first | (simp -implicitDefEqProofs only [go_sem, ↓reduceIte, Nat.reduceEqDiff, Nat.reduceAdd, Nat.reduceMul, Nat.reduceLT, Nat.reduceLeDiff, reduceCtorEq, Int.toNat_natCast]; done) | (simp -implicitDefEqProofs only [go_sem, ↓reduceIte, Nat.reduceEqDiff, Nat.reduceAdd, Nat.reduceMul, Nat.reduceLT, Nat.reduceLeDiff, reduceCtorEq, Int.toNat_natCast]; rfl) | rfl)⟩
  · refine AWP.ifF (by simp -implicitDefEqProofs only [go_sem, ↓reduceIte, Nat.reduceEqDiff, Nat.reduceAdd, Nat.reduceMul, Nat.reduceLT, Nat.reduceLeDiff, reduceCtorEq, Int.toNat_natCast, hlt]) ?_
    refine AWP.exit ?_
    simp -implicitDefEqProofs only [go_sem, ↓reduceIte, Nat.reduceEqDiff, Nat.reduceAdd, Nat.reduceMul, Nat.reduceLT, Nat.reduceLeDiff, reduceCtorEq, Int.toNat_natCast]
    have hij : i = kL p l := by omega
    subst hij
    have hfin : ∀ (t : Nat → AV) (n : Nat), t 6 = IntV (kL p l) → t 7 = BoolV (hasL p l) → Am.Ends Tryd.prog ⟨Tryd.f109.ntmps, b, ι, hh, w, x0⟩ Tryd.f109 0 (fun r h' => r = .tup [IntV (kL p l), BoolV (hasL p l)] ∧ h' = hh) ⟨t, hh, n⟩ := by
      intro t n g6 g7
      exact Ends.pure hn H (fun _ _ => rfl) (r0 := .tup [IntV (kL p l), BoolV (hasL p l)]) (by rw [show Tryd.f109.results.toList = [.tmp 6, .tmp 7] from rfl]; simp -implicitDefEqProofs only [go_sem, ↓reduceIte, Nat.reduceEqDiff, Nat.reduceAdd, Nat.reduceMul, Nat.reduceLT, Nat.reduceLeDiff, reduceCtorEq, Int.toNat_natCast, g6, g7]) (frz_tup2 (.v _) (.v _)) ⟨rfl, rfl⟩
    by_cases hkn : ((kL p l : Nat) : Int) < l.length
    · have hk2 : kL p l < l.length := by omega
      have hge := encF_getD l (kL p l) hk2
      have hhas := hasL_k (p := p) (l := l)
      obtain ⟨f, hf⟩ : ∃ f, l[kL p l] = f := ⟨_, rfl⟩
      rw [hf] at hge
      have hfm : f ∈ l := by rw [← hf]; exact List.getElem_mem hk2
      have hcm := hcmp f hfm
      have hd : hasL p l = decide (cK f.name p = 0) := by
        rw [Bool.eq_iff_iff, hhas, decide_eq_true_eq]
        exact ⟨fun ⟨_, e⟩ => by rw [← hf]; exact e, fun e => ⟨hk2, by rw [hf]; exact e⟩⟩
      refine AWP.seqReg (by kernel_rfl) (fun E K hE hK => ?_); simp -implicitDefEqProofs only [go_sem, ↓reduceIte, Nat.reduceEqDiff, Nat.reduceAdd, Nat.reduceMul, Nat.reduceLT, Nat.reduceLeDiff, reduceCtorEq, Int.toNat_natCast, e0, e1, e2, e8, e9, hlm, hkn, hge]
      refine ⟨by omega, ?_⟩
      refine CallR.use (order_ok f p _ _) body_78 ?_; rintro _ h_ ⟨rfl, e_⟩; rw [e_]; clear e_ h_; simp -implicitDefEqProofs only [go_sem, ↓reduceIte, Nat.reduceEqDiff, Nat.reduceAdd, Nat.reduceMul, Nat.reduceLT, Nat.reduceLeDiff, reduceCtorEq, Int.toNat_natCast]
      simp -implicitDefEqProofs only [go_sem, ↓reduceIte, Nat.reduceEqDiff, Nat.reduceAdd, Nat.reduceMul, Nat.reduceLT, Nat.reduceLeDiff, reduceCtorEq, Int.toNat_natCast, hcm]
      refine hK _ _ _ ?_; clear hE hK K E
      refine AWP.ret ?_
      exact hfin _ _ (by (first | (simp -implicitDefEqProofs only [go_sem, ↓reduceIte, Nat.reduceEqDiff, Nat.reduceAdd, Nat.reduceMul, Nat.reduceLT, Nat.reduceLeDiff, reduceCtorEq, Int.toNat_natCast]; done) | (simp -implicitDefEqProofs only [go_sem, ↓reduceIte, Nat.reduceEqDiff, Nat.reduceAdd, Nat.reduceMul, Nat.reduceLT, Nat.reduceLeDiff, reduceCtorEq, Int.toNat_natCast]; rfl) | rfl)) (by rw [hd]; (first | (simp -implicitDefEqProofs only [go_sem, ↓reduceIte, Nat.reduceEqDiff, Nat.reduceAdd, Nat.reduceMul, Nat.reduceLT, Nat.reduceLeDiff, reduceCtorEq, Int.toNat_natCast]; done) | (simp -implicitDefEqProofs only [go_sem, ↓reduceIte, Nat.reduceEqDiff, Nat.reduceAdd, Nat.reduceMul, Nat.reduceLT, Nat.reduceLeDiff, reduceCtorEq, Int.toNat_natCast]; rfl) | rfl))
    · have hd : hasL p l = false := by
        rw [← Bool.not_eq_true, hasL_k]
        rintro ⟨h1, _⟩; omega
      refine AWP.seqReg (by kernel_rfl) (fun E K hE hK => ?_); simp -implicitDefEqProofs only [go_sem, ↓reduceIte, Nat.reduceEqDiff, Nat.reduceAdd, Nat.reduceMul, Nat.reduceLT, Nat.reduceLeDiff, reduceCtorEq, Int.toNat_natCast, e0, e1, e2, e8, e9, hlm, hkn]; refine hK _ _ _ ?_; clear hE hK K E
      refine AWP.ret ?_
      exact hfin _ _ (by (first | (simp -implicitDefEqProofs only [go_sem, ↓reduceIte, Nat.reduceEqDiff, Nat.reduceAdd, Nat.reduceMul, Nat.reduceLT, Nat.reduceLeDiff, reduceCtorEq, Int.toNat_natCast]; done) | (simp -implicitDefEqProofs only [go_sem, ↓reduceIte, Nat.reduceEqDiff, Nat.reduceAdd, Nat.reduceMul, Nat.reduceLT, Nat.reduceLeDiff, reduceCtorEq, Int.toNat_natCast]; rfl) | rfl)) (by rw [hd]; (first | (simp -implicitDefEqProofs only [go_sem, ↓reduceIte, Nat.reduceEqDiff, Nat.reduceAdd, Nat.reduceMul, Nat.reduceLT, Nat.reduceLeDiff, reduceCtorEq, Int.toNat_natCast]; done) | (simp -implicitDefEqProofs only [go_sem, ↓reduceIte, Nat.reduceEqDiff, Nat.reduceAdd, Nat.reduceMul, Nat.reduceLT, Nat.reduceLeDiff, reduceCtorEq, Int.toNat_natCast]; rfl) | rfl))

def findR (l : List Fl) (p : S) : Nat × Bool × Int := if checkT l ≠ 0 ∨ chkN p ≠ 0 then (0, false, 1) else (kL p l, hasL p l, 0)

theorem find_ok (l : List Fl) (p : S) (hl : l.length ≤ 1000000) (h : Heap) (b : Nat) :
    ACalls Tryd.prog 73 [FlsV l, StrV p] h b 0 (fun r h' => r = .tup [IntV (findR l p).1, BoolV (findR l p).2.1, IntV (findR l p).2.2] ∧ h' = h) := by
  refine ACalls.enter Tryd.func73 rfl (by simp [Tryd.ntmps73]) (fun ι w hn H => ?_)
  have fin : ∀ (t : Nat → AV) (n : Nat) (v : Nat × Bool × Int), t 4 = IntV v.1 → t 5 = BoolV v.2.1 → t 6 = IntV v.2.2 → v = findR l p → Am.Ends Tryd.prog ⟨Tryd.f73.ntmps, b, ι, h, w, x0⟩ Tryd.f73 0 (fun r h' => r = .tup [IntV (findR l p).1, BoolV (findR l p).2.1, IntV (findR l p).2.2] ∧ h' = h) ⟨t, h, n⟩ := by
    intro t n v g4 g5 g6 hv
    exact Ends.pure hn H (fun _ _ => rfl) (r0 := .tup [IntV v.1, BoolV v.2.1, IntV v.2.2]) (by rw [show Tryd.f73.results.toList = [.tmp 4, .tmp 5, .tmp 6] from rfl]; simp -implicitDefEqProofs only [go_sem, ↓reduceIte, Nat.reduceEqDiff, Nat.reduceAdd, Nat.reduceMul, Nat.reduceLT, Nat.reduceLeDiff, reduceCtorEq, Int.toNat_natCast, g4, g5, g6]) (frz_tup3 (.v _) (.v _) (.v _)) ⟨by rw [hv], rfl⟩
  refine AWP.seqReg (by kernel_rfl) (fun E K hE hK => ?_); simp -implicitDefEqProofs only [go_sem, ↓reduceIte, Nat.reduceEqDiff, Nat.reduceAdd, Nat.reduceMul, Nat.reduceLT, Nat.reduceLeDiff, reduceCtorEq, Int.toNat_natCast]; refine hK _ _ _ ?_; clear hE hK K E
  refine AWP.seq ?_
  by_cases c1 : checkT l = 0
  case neg =>
    refine AWP.seqReg (by kernel_rfl) (fun E K hE hK => ?_); simp -implicitDefEqProofs only [go_sem, ↓reduceIte, Nat.reduceEqDiff, Nat.reduceAdd, Nat.reduceMul, Nat.reduceLT, Nat.reduceLeDiff, reduceCtorEq, Int.toNat_natCast]
    refine CallR.use (tCheck_ok l hl _ _) body_39 ?_; rintro _ h_ ⟨rfl, e_⟩; rw [e_]; clear e_ h_; simp -implicitDefEqProofs only [go_sem, ↓reduceIte, Nat.reduceEqDiff, Nat.reduceAdd, Nat.reduceMul, Nat.reduceLT, Nat.reduceLeDiff, reduceCtorEq, Int.toNat_natCast]
    simp -implicitDefEqProofs only [go_sem, ↓reduceIte, Nat.reduceEqDiff, Nat.reduceAdd, Nat.reduceMul, Nat.reduceLT, Nat.reduceLeDiff, reduceCtorEq, Int.toNat_natCast, c1]
    refine hK _ _ _ ?_; clear hE hK K E
    refine AWP.ifT (by simp -implicitDefEqProofs only [go_sem, ↓reduceIte, Nat.reduceEqDiff, Nat.reduceAdd, Nat.reduceMul, Nat.reduceLT, Nat.reduceLeDiff, reduceCtorEq, Int.toNat_natCast]) ?_
    refine AWP.seqReg (by kernel_rfl) (fun E K hE hK => ?_); simp -implicitDefEqProofs only [go_sem, ↓reduceIte, Nat.reduceEqDiff, Nat.reduceAdd, Nat.reduceMul, Nat.reduceLT, Nat.reduceLeDiff, reduceCtorEq, Int.toNat_natCast]; refine hK _ _ _ ?_; clear hE hK K E
    refine AWP.ret ?_
    simp -implicitDefEqProofs only [go_sem, ↓reduceIte, Nat.reduceEqDiff, Nat.reduceAdd, Nat.reduceMul, Nat.reduceLT, Nat.reduceLeDiff, reduceCtorEq, Int.toNat_natCast]
    exact fin _ _ (0, false, 1) (by (first | (simp -implicitDefEqProofs only [go_sem, ↓reduceIte, Nat.reduceEqDiff, Nat.reduceAdd, Nat.reduceMul, Nat.reduceLT, Nat.reduceLeDiff, reduceCtorEq, Int.toNat_natCast]; done) | (simp -implicitDefEqProofs only [go_sem, ↓reduceIte, Nat.reduceEqDiff, Nat.reduceAdd, Nat.reduceMul, Nat.reduceLT, Nat.reduceLeDiff, reduceCtorEq, Int.toNat_natCast]; rfl) | rfl)) (by (first | (simp -implicitDefEqProofs only [go_sem, ↓reduceIte, Nat.reduceEqDiff, Nat.reduceAdd, Nat.reduceMul, Nat.reduceLT, Nat.reduceLeDiff, reduceCtorEq, Int.toNat_natCast]; done) | (simp -implicitDefEqProofs only [go_sem, ↓reduceIte, Nat.reduceEqDiff, Nat.reduceAdd, Nat.reduceMul, Nat.reduceLT, Nat.reduceLeDiff, reduceCtorEq, Int.toNat_natCast]; rfl) | rfl)) (by (first | (simp -implicitDefEqProofs only [go_sem, ↓reduceIte, Nat.reduceEqDiff, Nat.reduceAdd, Nat.reduceMul, Nat.reduceLT, Nat.reduceLeDiff, reduceCtorEq, Int.toNat_natCast]; done) | (simp -implicitDefEqProofs only [go_sem, ↓reduceIte, Nat.reduceEqDiff, Nat.reduceAdd, Nat.reduceMul, Nat.reduceLT, Nat.reduceLeDiff, reduceCtorEq, Int.toNat_natCast]; rfl) | rfl)) (by unfold findR; rw [if_pos (.inl c1)])
  by_cases c2 : chkN p = 0
  case neg =>
    refine AWP.seqReg (by kernel_rfl) (fun E K hE hK => ?_); simp -implicitDefEqProofs only [go_sem, ↓reduceIte, Nat.reduceEqDiff, Nat.reduceAdd, Nat.reduceMul, Nat.reduceLT, Nat.reduceLeDiff, reduceCtorEq, Int.toNat_natCast]
    refine CallR.use (tCheck_ok l hl _ _) body_39 ?_; rintro _ h_ ⟨rfl, e_⟩; rw [e_]; clear e_ h_; simp -implicitDefEqProofs only [go_sem, ↓reduceIte, Nat.reduceEqDiff, Nat.reduceAdd, Nat.reduceMul, Nat.reduceLT, Nat.reduceLeDiff, reduceCtorEq, Int.toNat_natCast]
    simp -implicitDefEqProofs only [go_sem, ↓reduceIte, Nat.reduceEqDiff, Nat.reduceAdd, Nat.reduceMul, Nat.reduceLT, Nat.reduceLeDiff, reduceCtorEq, Int.toNat_natCast, c1]
    refine CallR.use (Check_ok (mkS p) _ _) body_35 ?_; rintro _ h_ ⟨rfl, e_⟩; rw [e_]; clear e_ h_; simp -implicitDefEqProofs only [go_sem, ↓reduceIte, Nat.reduceEqDiff, Nat.reduceAdd, Nat.reduceMul, Nat.reduceLT, Nat.reduceLeDiff, reduceCtorEq, Int.toNat_natCast]
    simp -implicitDefEqProofs only [go_sem, ↓reduceIte, Nat.reduceEqDiff, Nat.reduceAdd, Nat.reduceMul, Nat.reduceLT, Nat.reduceLeDiff, reduceCtorEq, Int.toNat_natCast, mkS_list, c2]
    refine hK _ _ _ ?_; clear hE hK K E
    refine AWP.ifT (by simp -implicitDefEqProofs only [go_sem, ↓reduceIte, Nat.reduceEqDiff, Nat.reduceAdd, Nat.reduceMul, Nat.reduceLT, Nat.reduceLeDiff, reduceCtorEq, Int.toNat_natCast]) ?_
    refine AWP.seqReg (by kernel_rfl) (fun E K hE hK => ?_); simp -implicitDefEqProofs only [go_sem, ↓reduceIte, Nat.reduceEqDiff, Nat.reduceAdd, Nat.reduceMul, Nat.reduceLT, Nat.reduceLeDiff, reduceCtorEq, Int.toNat_natCast]; refine hK _ _ _ ?_; clear hE hK K E
    refine AWP.ret ?_
    simp -implicitDefEqProofs only [go_sem, ↓reduceIte, Nat.reduceEqDiff, Nat.reduceAdd, Nat.reduceMul, Nat.reduceLT, Nat.reduceLeDiff, reduceCtorEq, Int.toNat_natCast]
    exact fin _ _ (0, false, 1) (by (first | (simp -implicitDefEqProofs only [go_sem, ↓reduceIte, Nat.reduceEqDiff, Nat.reduceAdd, Nat.reduceMul, Nat.reduceLT, Nat.reduceLeDiff, reduceCtorEq, Int.toNat_natCast]; done) | (simp -implicitDefEqProofs only [go_sem, ↓reduceIte, Nat.reduceEqDiff, Nat.reduceAdd, Nat.reduceMul, Nat.reduceLT, Nat.reduceLeDiff, reduceCtorEq, Int.toNat_natCast]; rfl) | rfl)) (by (first | (simp -implicitDefEqProofs only [go_sem, ↓reduceIte, Nat.reduceEqDiff, Nat.reduceAdd, Nat.reduceMul, Nat.reduceLT, Nat.reduceLeDiff, reduceCtorEq, Int.toNat_natCast]; done) | (simp -implicitDefEqProofs only [go_sem, ↓reduceIte, Nat.reduceEqDiff, Nat.reduceAdd, Nat.reduceMul, Nat.reduceLT, Nat.reduceLeDiff, reduceCtorEq, Int.toNat_natCast]; rfl) | rfl)) (by (first | (simp -implicitDefEqProofs only [go_sem, ↓reduceIte, Nat.reduceEqDiff, Nat.reduceAdd, Nat.reduceMul, Nat.reduceLT, Nat.reduceLeDiff, reduceCtorEq, Int.toNat_natCast]; done) | (simp -implicitDefEqProofs only [go_sem, ↓reduceIte, Nat.reduceEqDiff, Nat.reduceAdd, Nat.reduceMul, Nat.reduceLT, Nat.reduceLeDiff, reduceCtorEq, Int.toNat_natCast]; rfl) | rfl)) (by unfold findR; rw [if_pos (.inr c2)])
  refine AWP.seqReg (by kernel_rfl) (fun E K hE hK => ?_); simp -implicitDefEqProofs only [go_sem, ↓reduceIte, Nat.reduceEqDiff, Nat.reduceAdd, Nat.reduceMul, Nat.reduceLT, Nat.reduceLeDiff, reduceCtorEq, Int.toNat_natCast]
  refine CallR.use (tCheck_ok l hl _ _) body_39 ?_; rintro _ h_ ⟨rfl, e_⟩; rw [e_]; clear e_ h_; simp -implicitDefEqProofs only [go_sem, ↓reduceIte, Nat.reduceEqDiff, Nat.reduceAdd, Nat.reduceMul, Nat.reduceLT, Nat.reduceLeDiff, reduceCtorEq, Int.toNat_natCast]
  simp -implicitDefEqProofs only [go_sem, ↓reduceIte, Nat.reduceEqDiff, Nat.reduceAdd, Nat.reduceMul, Nat.reduceLT, Nat.reduceLeDiff, reduceCtorEq, Int.toNat_natCast, c1]
  refine CallR.use (Check_ok (mkS p) _ _) body_35 ?_; rintro _ h_ ⟨rfl, e_⟩; rw [e_]; clear e_ h_; simp -implicitDefEqProofs only [go_sem, ↓reduceIte, Nat.reduceEqDiff, Nat.reduceAdd, Nat.reduceMul, Nat.reduceLT, Nat.reduceLeDiff, reduceCtorEq, Int.toNat_natCast]
  simp -implicitDefEqProofs only [go_sem, ↓reduceIte, Nat.reduceEqDiff, Nat.reduceAdd, Nat.reduceMul, Nat.reduceLT, Nat.reduceLeDiff, reduceCtorEq, Int.toNat_natCast, mkS_list, c2]
  refine hK _ _ _ ?_; clear hE hK K E
  refine AWP.ifF (by simp -implicitDefEqProofs only [go_sem, ↓reduceIte, Nat.reduceEqDiff, Nat.reduceAdd, Nat.reduceMul, Nat.reduceLT, Nat.reduceLeDiff, reduceCtorEq, Int.toNat_natCast]) ?_; refine AWP.skip ?_; simp -implicitDefEqProofs only [go_sem, ↓reduceIte, Nat.reduceEqDiff, Nat.reduceAdd, Nat.reduceMul, Nat.reduceLT, Nat.reduceLeDiff, reduceCtorEq, Int.toNat_natCast]
  cases hhas : hasL p l
  all_goals
    refine AWP.seqReg (by kernel_rfl) (fun E K hE hK => ?_); simp -implicitDefEqProofs only [go_sem, ↓reduceIte, Nat.reduceEqDiff, Nat.reduceAdd, Nat.reduceMul, Nat.reduceLT, Nat.reduceLeDiff, reduceCtorEq, Int.toNat_natCast]
    refine CallR.use (bsearch_ok l p hl c1 c2 _ _) body_109 ?_; rintro _ h_ ⟨rfl, e_⟩; rw [e_]; clear e_ h_; simp -implicitDefEqProofs only [go_sem, ↓reduceIte, Nat.reduceEqDiff, Nat.reduceAdd, Nat.reduceMul, Nat.reduceLT, Nat.reduceLeDiff, reduceCtorEq, Int.toNat_natCast]
    simp -implicitDefEqProofs only [go_sem, ↓reduceIte, Nat.reduceEqDiff, Nat.reduceAdd, Nat.reduceMul, Nat.reduceLT, Nat.reduceLeDiff, reduceCtorEq, Int.toNat_natCast, hhas]
    refine hK _ _ _ ?_; clear hE hK K E
    refine AWP.seqReg (by kernel_rfl) (fun E K hE hK => ?_); simp -implicitDefEqProofs only [go_sem, ↓reduceIte, Nat.reduceEqDiff, Nat.reduceAdd, Nat.reduceMul, Nat.reduceLT, Nat.reduceLeDiff, reduceCtorEq, Int.toNat_natCast]; refine hK _ _ _ ?_; clear hE hK K E
    refine AWP.ret ?_
    exact fin _ _ (kL p l, hasL p l, 0) (by (first | (simp -implicitDefEqProofs only [go_sem, ↓reduceIte, Nat.reduceEqDiff, Nat.reduceAdd, Nat.reduceMul, Nat.reduceLT, Nat.reduceLeDiff, reduceCtorEq, Int.toNat_natCast]; done) | (simp -implicitDefEqProofs only [go_sem, ↓reduceIte, Nat.reduceEqDiff, Nat.reduceAdd, Nat.reduceMul, Nat.reduceLT, Nat.reduceLeDiff, reduceCtorEq, Int.toNat_natCast]; rfl) | rfl)) (by rw [hhas]; (first | (simp -implicitDefEqProofs only [go_sem, ↓reduceIte, Nat.reduceEqDiff, Nat.reduceAdd, Nat.reduceMul, Nat.reduceLT, Nat.reduceLeDiff, reduceCtorEq, Int.toNat_natCast]; done) | (simp -implicitDefEqProofs only [go_sem, ↓reduceIte, Nat.reduceEqDiff, Nat.reduceAdd, Nat.reduceMul, Nat.reduceLT, Nat.reduceLeDiff, reduceCtorEq, Int.toNat_natCast]; rfl) | rfl)) (by (first | (simp -implicitDefEqProofs only [go_sem, ↓reduceIte, Nat.reduceEqDiff, Nat.reduceAdd, Nat.reduceMul, Nat.reduceLT, Nat.reduceLeDiff, reduceCtorEq, Int.toNat_natCast]; done) | (simp -implicitDefEqProofs only [go_sem, ↓reduceIte, Nat.reduceEqDiff, Nat.reduceAdd, Nat.reduceMul, Nat.reduceLT, Nat.reduceLeDiff, reduceCtorEq, Int.toNat_natCast]; rfl) | rfl)) (by unfold findR; rw [if_neg (by simp [c1, c2])])

end Go.Proofs.YtengjcdilnikhaaDoor
