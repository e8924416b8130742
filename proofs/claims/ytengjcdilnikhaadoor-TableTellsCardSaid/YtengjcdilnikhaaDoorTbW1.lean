/-
  Walks of package table: may, order, Check, find; Walks of package table: the search, find.
-/
import Derived.Test.YtengjcdilnikhaaDoorTbSpec
import Derived.Test.YtengjcdilnikhaaDoorAmMore
namespace Go.Proofs.YtengjcdilnikhaaDoor
set_option linter.unusedSimpArgs false
set_option linter.unusedVariables false
set_option linter.unnecessarySimpa false
open Go Am
set_option maxRecDepth 100000

def i64F (f : Fl) : Prop := (-9223372036854775808 ≤ f.blk ∧ f.blk ≤ 9223372036854775807) ∧ (-9223372036854775808 ≤ f.frm ∧ f.frm ≤ 9223372036854775807) ∧ (-9223372036854775808 ≤ f.len ∧ f.len ≤ 9223372036854775807)

theorem mayF_ok (f : Fl) (h : Heap) (b : Nat) : ACalls Tryd.prog 74 [FlV f] h b 0 (fun r h' => r = BoolV (mayF f) ∧ h' = h) := by
  refine ACalls.enter Tryd.func74 rfl (by simp [Tryd.ntmps74]) (fun ι w hn H => ?_)
  have fin : ∀ (t : Nat → AV) (hh : Heap) (n : Nat) (v : Bool), t 2 = BoolV v → (∀ id, id < b → hh id = h id) → v = mayF f → Am.Ends Tryd.prog ⟨Tryd.f74.ntmps, b, ι, h, w, x0⟩ Tryd.f74 0 (fun r h' => r = BoolV (mayF f) ∧ h' = h) ⟨t, hh, n⟩ := by
    intro t hh n v ht ho hv
    exact Ends.pure hn H ho (r0 := BoolV v) (by rw [show Tryd.f74.results.toList = [.tmp 2] from rfl]; exact Ecf @ht) (.v _) ⟨by rw [hv], rfl⟩
  refine Rk ?_
  by_cases c1 : 0 ≤ f.blk
  case neg =>
    refine Rkf @c1 ?_
    refine AWP.ret ?_
    exact fin _ _ _ false (by exact Er) Ou (by unfold mayF; simp [c1])
  by_cases c2 : f.blk ≤ 8192
  case neg =>
    refine Rkf (jn2 @c1 @c2) ?_
    refine AWP.ret ?_
    exact fin _ _ _ false (by exact Er) Ou (by unfold mayF; simp [c2])
  by_cases c3 : 0 ≤ f.frm
  case neg =>
    refine Rkf (jn3 @c1 @c2 @c3) ?_
    refine AWP.ret ?_
    exact fin _ _ _ false (by exact Er) Ou (by unfold mayF; simp [c3])
  by_cases c4 : f.frm ≤ 65536
  case neg =>
    refine Rkf (jn4 @c1 @c2 @c3 @c4) ?_
    refine AWP.ret ?_
    exact fin _ _ _ false (by exact Er) Ou (by unfold mayF; simp [c4])
  by_cases c5 : 0 ≤ f.len
  case neg =>
    refine Rkf (jn5 @c1 @c2 @c3 @c4 @c5) ?_
    refine AWP.ret ?_
    exact fin _ _ _ false (by exact Er) Ou (by unfold mayF; simp [c5])
  have hw : IntKind.i64.wrap (65536 - f.frm) = 65536 - f.frm := wrap_i64 (by omega) (by omega)
  by_cases c6 : f.len ≤ 65536 - f.frm
  case neg =>
    refine Rkf (jn7 @c1 @c2 @c3 @c4 @c5 @c6 @hw) ?_
    refine AWP.ret ?_
    exact fin _ _ _ false (by exact Er) Ou (by unfold mayF; simp [c6])
  refine Rgf (jn7 @c1 @c2 @c3 @c4 @c5 @c6 @hw) (fun E K hE hK => ?_)
  refine Us (Check_ok (mkS f.name) _ _) body_35 ?_
  refine Evf @mkS_list ?_
  refine hK _ _ _ ?_; clear hE hK K E
  refine AWP.ret ?_
  exact fin _ _ _ (decide (chkN f.name = 0)) (by exact Er) Ou (by unfold mayF; simp [c1, c2, c3, c4, c5, c6])

theorem order_ok (f : Fl) (p : S) (h : Heap) (b : Nat) : ACalls Tryd.prog 78 [FlV f, StrV p] h b 0 (fun r h' => r = IntV (cmpN f.name p).1 ∧ h' = h) := by
  refine ACalls.enter Tryd.func78 rfl (by simp [Tryd.ntmps78]) (fun ι w hn H => ?_)
  refine Rk ?_
  refine Rg (fun E K hE hK => ?_)
  refine Us (Cmp_ok (mkS f.name) (mkS p) _ _) body_54 ?_
  refine Evf @mkS_list ?_
  refine hK _ _ _ ?_; clear hE hK K E
  refine Rk ?_
  refine AWP.ret ?_
  exact Ends.pure hn H Ou (r0 := IntV (cmpN f.name p).1) (by rw [show Tryd.f78.results.toList = [.tmp 4] from rfl]; exact Er) (.v _) ⟨rfl, rfl⟩

def prevN (l : List Fl) (i : Nat) : Option S := if i = 0 then none else (l[i - 1]?).map Fl.name
def tCkI (l : List Fl) (h : Heap) (b i : Nat) (st : St) : Prop :=
  (∀ id, id < b → st.h id = h id) ∧ st.t 0 = FlsV l ∧ st.t 8 = FlsV l ∧ st.t 9 = IntV l.length ∧ st.t 10 = IntV (i : Nat) ∧ tabF none l = tabF (prevN l i) (l.drop i) ∧ ∀ f ∈ l.take i, mayF f = true

theorem tCheck_ok (l : List Fl) (hl : l.length ≤ 1000000) (h : Heap) (b : Nat) : ACalls Tryd.prog 39 [FlsV l] h b 0 (fun r h' => r = IntV (checkT l) ∧ h' = h) := by
  refine ACalls.enter Tryd.func39 rfl (by simp [Tryd.ntmps39]) (fun ι w hn H => ?_)
  have hlow := H.lowCells
  have hlm : (l.map encF).length = l.length := List.length_map _
  have fin : ∀ (t : Nat → AV) (hh : Heap) (n : Nat) (v : Int), t 2 = IntV v → (∀ id, id < b → hh id = h id) → v = checkT l → Am.Ends Tryd.prog ⟨Tryd.f39.ntmps, b, ι, h, w, x0⟩ Tryd.f39 0 (fun r h' => r = IntV (checkT l) ∧ h' = h) ⟨t, hh, n⟩ := by
    intro t hh n v ht ho hv
    exact Ends.pure hn H ho (r0 := IntV v) (by rw [show Tryd.f39.results.toList = [.tmp 2] from rfl]; exact Ecf @ht) (.v _) ⟨by rw [hv], rfl⟩
  refine Rk ?_
  refine AWP.seq ?_
  by_cases c0 : (256 : Int) < l.length
  · refine Rkf (jn2 @hlm @c0) ?_
    refine Bt ?_
    refine Rk ?_
    refine AWP.ret ?_
    refine Ev ?_
    exact fin _ _ _ 1 (by exact Er) Ou (by unfold checkT; rw [if_pos (by omega)])
  have hcx : checkT l = if tabF none l = true then 0 else 1 := by unfold checkT; rw [if_neg (by omega)]
  refine Rkf (jn2 @hlm @c0) ?_
  refine Bs ?_
  refine AWP.seq ?_
  refine Rkf @hlm ?_
  refine AWP.block ?_
  refine AWP.loopM 0 (fun m st => ∃ i, i ≤ l.length ∧ m = l.length - i ∧ tCkI l h b i st) l.length rfl ⟨0, Nat.zero_le _, rfl, Ou, by exact Er, by exact Er, by exact Er, by exact Er, rfl, by simp⟩ ?_
  rintro m ⟨t, hh, n⟩ ⟨i, hi, rfl, ho, e0, e8, e9, e10, hc, hmay⟩ hn1
  simp only at ho e0 e8 e9 e10 hn1
  subst hn1
  refine Rkf (jn2 @e9 @e10) ?_
  refine AWP.seq ?_
  by_cases hlt : (i : Int) < l.length
  · have hw1 : IntKind.i64.wrap ((i : Int) + 1) = ((i + 1 : Nat) : Int) := by rw [wrap_i64 (by omega) (by omega)]; rfl
    have hi2 : i < l.length := by omega
    have hge := encF_getD l i hi2
    obtain ⟨f, hf⟩ : ∃ f, l[i] = f := ⟨_, rfl⟩
    have hdr : l.drop i = f :: l.drop (i + 1) := by rw [List.drop_eq_getElem_cons hi2, hf]
    have hpn : prevN l (i + 1) = some f.name := by unfold prevN; rw [if_neg (by omega), Nat.add_sub_cancel, List.getElem?_eq_getElem hi2, hf]; rfl
    rw [hf] at hge
    have hc2 : tabF none l = (mayF f && (aheadF (prevN l i) f.name && tabF (some f.name) (l.drop (i + 1)))) := by rw [hc, hdr]; rfl
    have hnext : mayF f = true → aheadF (prevN l i) f.name = true → tabF none l = tabF (prevN l (i + 1)) (l.drop (i + 1)) := by
      intro g1 g2; rw [hc2, g1, g2, hpn]; rfl
    have hmay2 : mayF f = true → ∀ x ∈ l.take (i + 1), mayF x = true := by
      intro g x hx
      rw [List.take_add_one, List.getElem?_eq_getElem hi2, hf] at hx
      rcases List.mem_append.1 hx with hx | hx
      · exact hmay x hx
      · simp at hx; subst hx; exact g
    have bad : tabF none l = false → 1 = checkT l := fun e => by rw [hcx, e]; rfl
    refine Btf @hlt ?_
    refine AWP.skip ?_
    refine Ev ?_
    refine AWP.seq ?_
    refine AWP.block ?_
    refine Rgf (jn5 @e8 @e10 @hlm @hlt @hge) (fun E K hE hK => ?_)
    refine ⟨by omega, ?_⟩
    refine hK _ _ _ ?_; clear hE hK K E
    cases c1 : mayF f
    · refine AWP.seqRegDG [] [] [] mixed (drawF_ok (by kernel_rfl)) (by kernel_rfl) (fun K hK => ?_); simp -implicitDefEqProofs only [go_sem, ↓reduceIte, Nat.reduceEqDiff, Nat.reduceAdd, Nat.reduceLT, Nat.reduceLeDiff, reduceCtorEq, Int.toNat_natCast, decide_true]
      refine Ud (mayF_ok f _ _) body_74 ?_
      try (refine Evf @c1 ?_)
      repeat (first | (refine Gd 18 ?_) | (refine Gd 21 ?_) | (refine ⟨by omega, ?_⟩))
      refine hK _ _ _ ?_; clear hK K
      refine Bt ?_
      refine Rk ?_
      refine AWP.ret ?_
      refine Ev ?_
      exact fin _ _ _ 1 (by exact Er) (Ouf @ho) (bad (by rw [hc2, c1]; rfl))
    by_cases h0 : i = 0
    · have h0' : ¬ (0 : Int) < i := by omega
      refine AWP.seqRegDG [] [] [] mixed (drawF_ok (by kernel_rfl)) (by kernel_rfl) (fun K hK => ?_); simp -implicitDefEqProofs only [go_sem, ↓reduceIte, Nat.reduceEqDiff, Nat.reduceAdd, Nat.reduceLT, Nat.reduceLeDiff, reduceCtorEq, Int.toNat_natCast, h0']
      refine Ud (mayF_ok f _ _) body_74 ?_
      try (refine Evf @c1 ?_)
      repeat (first | (refine Gdf 18 @h0' ?_) | (refine Gdf 21 @h0' ?_) | (refine ⟨by omega, ?_⟩))
      refine hK _ _ _ ?_; clear hK K
      refine Bf ?_
      refine AWP.skip ?_
      refine Ev ?_
      refine Raf (jn2 @e10 @hw1) (fun E K hE hK => ?_); refine hK _ _ _ ?_; clear hE hK K E
      exact ⟨l.length - (i + 1), by omega, i + 1, by omega, rfl, cutH_outer (Nat.le_refl _) (Ouf @ho) hlow, by exact Ecf @e0, by exact Ecf @e8, by exact Ecf @e9, by exact Er, hnext c1 (by unfold prevN; rw [if_pos h0]; rfl), hmay2 c1⟩
    have h0' : (0 : Int) < i := by omega
    have hi3 : i - 1 < l.length := by omega
    have hge2 := encF_getD l (i - 1) hi3
    have hwm : IntKind.i64.wrap ((i : Int) - 1) = ((i - 1 : Nat) : Int) := by rw [wrap_i64 (by omega) (by omega)]; omega
    have hlt2 : ((i - 1 : Nat) : Int) < l.length := by omega
    obtain ⟨g, hg⟩ : ∃ g, l[i - 1] = g := ⟨_, rfl⟩
    have hpi : prevN l i = some g.name := by unfold prevN; rw [if_neg h0, List.getElem?_eq_getElem hi3, hg]; rfl
    rw [hg] at hge2
    have hgm : mayF g = true := hmay g (by
      have : l[i - 1]? = (l.take i)[i - 1]? := by rw [List.getElem?_take, if_pos (by omega)]
      rw [List.getElem?_eq_getElem hi3, hg] at this
      exact List.mem_of_getElem? this.symm)
    have hcm : (cmpN g.name f.name).1 = cK g.name f.name := by rw [cmpN_ok (chkN_zero.1 (mayF_chk hgm)) (chkN_zero.1 (mayF_chk c1))]
    by_cases c3 : 0 ≤ cK g.name f.name
    · refine AWP.seqRegDG [] [] [] mixed (drawF_ok (by kernel_rfl)) (by kernel_rfl) (fun K hK => ?_); simp -implicitDefEqProofs only [go_sem, ↓reduceIte, Nat.reduceEqDiff, Nat.reduceAdd, Nat.reduceLT, Nat.reduceLeDiff, reduceCtorEq, Int.toNat_natCast, h0', e0, hwm, hlm, hlt2, hge2]
      refine Ud (mayF_ok f _ _) body_74 ?_
      try (refine Evf @c1 ?_)
      repeat (first | (refine Gdf 18 (jn6 @h0' @e0 @hwm @hlm @hlt2 @hge2) ?_) | (refine Gdf 21 (jn6 @h0' @e0 @hwm @hlm @hlt2 @hge2) ?_) | (refine ⟨by omega, ?_⟩))
      refine Ud (order_ok g f.name _ _) body_78 ?_
      try (refine Evf (jn2 @hcm @c3) ?_)
      repeat (first | (refine Gdf 18 (jn7 @h0' @e0 @hwm @hlm @hlt2 @hge2 @c3) ?_) | (refine Gdf 21 (jn7 @h0' @e0 @hwm @hlm @hlt2 @hge2 @c3) ?_) | (refine ⟨by omega, ?_⟩))
      refine hK _ _ _ ?_; clear hK K
      refine Bt ?_
      refine Rk ?_
      refine AWP.ret ?_
      refine Ev ?_
      exact fin _ _ _ 1 (by exact Er) (Ouf @ho) (bad (by rw [hc2, hpi]; show (mayF f && (decide (cK g.name f.name < 0) && _)) = false; rw [decide_eq_false (show ¬ cK g.name f.name < 0 by omega)]; simp))
    · refine AWP.seqRegDG [] [] [] mixed (drawF_ok (by kernel_rfl)) (by kernel_rfl) (fun K hK => ?_); simp -implicitDefEqProofs only [go_sem, ↓reduceIte, Nat.reduceEqDiff, Nat.reduceAdd, Nat.reduceLT, Nat.reduceLeDiff, reduceCtorEq, Int.toNat_natCast, h0', e0, hwm, hlm, hlt2, hge2]
      refine Ud (mayF_ok f _ _) body_74 ?_
      try (refine Evf @c1 ?_)
      repeat (first | (refine Gdf 18 (jn6 @h0' @e0 @hwm @hlm @hlt2 @hge2) ?_) | (refine Gdf 21 (jn6 @h0' @e0 @hwm @hlm @hlt2 @hge2) ?_) | (refine ⟨by omega, ?_⟩))
      refine Ud (order_ok g f.name _ _) body_78 ?_
      try (refine Evf (jn2 @hcm @c3) ?_)
      repeat (first | (refine Gdf 18 (jn7 @h0' @e0 @hwm @hlm @hlt2 @hge2 @c3) ?_) | (refine Gdf 21 (jn7 @h0' @e0 @hwm @hlm @hlt2 @hge2 @c3) ?_) | (refine ⟨by omega, ?_⟩))
      refine hK _ _ _ ?_; clear hK K
      refine Bf ?_
      refine AWP.skip ?_
      refine Ev ?_
      refine Raf (jn2 @e10 @hw1) (fun E K hE hK => ?_); refine hK _ _ _ ?_; clear hE hK K E
      exact ⟨l.length - (i + 1), by omega, i + 1, by omega, rfl, cutH_outer (Nat.le_refl _) (Ouf @ho) hlow, by exact Ecf @e0, by exact Ecf @e8, by exact Ecf @e9, by exact Er, hnext c1 (by rw [hpi]; unfold aheadF; simp only [decide_eq_true_eq]; omega), hmay2 c1⟩
  · refine Bff @hlt ?_
    refine AWP.exit ?_
    refine Ev ?_
    refine Rk ?_
    refine AWP.ret ?_
    refine fin _ _ _ 0 (by exact Er) ho ?_
    have : i = l.length := by omega
    subst this
    rw [hcx, hc, List.drop_length]
    cases prevN l l.length <;> rfl

end Go.Proofs.YtengjcdilnikhaaDoor

namespace Go.Proofs.YtengjcdilnikhaaDoor
set_option linter.unusedSimpArgs false
set_option linter.unusedVariables false
set_option linter.unnecessarySimpa false
open Go Am
set_option maxRecDepth 100000

def bsI (l : List Fl) (p : S) (h : Heap) (i j : Nat) (st : St) : Prop :=
  st.h = h ∧ st.t 0 = FlsV l ∧ st.t 1 = StrV p ∧ st.t 2 = .one (.clo (.func 78) [] []) ∧ st.t 8 = IntV l.length ∧ st.t 9 = IntV (i : Nat) ∧ st.t 10 = IntV (j : Nat)

theorem bsearch_ok (l : List Fl) (p : S) (hl : l.length ≤ 1000000) (ht : checkT l = 0) (hp : chkN p = 0) (h : Heap) (b : Nat) :
    ACalls Tryd.prog 109 [FlsV l, StrV p, .one (.clo (.func 78) [] [])] h b 0 (fun r h' => r = .tup [IntV (kL p l), BoolV (hasL p l)] ∧ h' = h) := by
  refine ACalls.enter Tryd.func109 rfl (by simp [Tryd.ntmps109]) (fun ι w hn H => ?_)
  have hlm : (l.map encF).length = l.length := List.length_map _
  have htab := (checkT_zero.1 ht).2
  have hkl := kL_le p l
  have hcmp : ∀ f ∈ l, (cmpN f.name p).1 = cK f.name p := fun f hf => by rw [cmpN_ok (chkN_zero.1 (mayF_chk (tabF_may htab f hf))) (chkN_zero.1 hp)]
  refine Rk ?_
  refine Rkf @hlm ?_
  refine Rkf @hlm ?_
  refine AWP.seq ?_
  refine AWP.block ?_
  refine AWP.loopK 0 (fun m st => ∃ i j, i ≤ kL p l ∧ kL p l ≤ j ∧ j ≤ l.length ∧ m = j - i ∧ bsI l p h i j st) l.length rfl ⟨0, l.length, Nat.zero_le _, hkl, Nat.le_refl _, rfl, rfl, by exact Er, by exact Er, by exact Er, by exact Er, by exact Er, by exact Er⟩ ?_
  rintro m ⟨t, hh, n⟩ ⟨i, j, hik, hkj, hj, rfl, rfl, e0, e1, e2, e8, e9, e10⟩ hn1
  simp only at e0 e1 e2 e8 e9 e10 hn1
  subst hn1
  refine AWP.seq ?_
  refine Rkf (jn2 @e9 @e10) ?_
  by_cases hlt : (i : Int) < j
  · refine Btf @hlt ?_
    refine AWP.skip ?_
    refine Ev ?_
    refine AWP.block ?_
    obtain ⟨c, hc⟩ : ∃ c, (i + j) / 2 = c := ⟨_, rfl⟩
    have hci : i ≤ c ∧ c < j := by omega
    have hsum : IntKind.i64.wrap ((i : Int) + j) = ((i + j : Nat) : Int) := by rw [wrap_i64 (by omega) (by omega)]; omega
    have hu : IntKind.u64.wrap ((i + j : Nat) : Int) = ((i + j : Nat) : Int) := IntWalk.u64_in _ ⟨by omega, by omega⟩
    have h10 : ¬ (1 : Int) < 0 := by decide
    have hfd : Int.fdiv ((i + j : Nat) : Int) (2 ^ min (Int.toNat 1) 64) = (c : Int) := by
      rw [← hc, show ((2 : Int) ^ min (Int.toNat 1) 64) = 2 from rfl, Int.fdiv_eq_ediv_of_nonneg _ (by decide)]; omega
    have hback : IntKind.i64.wrap (c : Int) = (c : Int) := wrap_i64 (by omega) (by omega)
    have hcl : c < l.length := by omega
    have hge := encF_getD l c hcl
    obtain ⟨f, hf⟩ : ∃ f, l[c] = f := ⟨_, rfl⟩
    rw [hf] at hge
    have hfm : f ∈ l := by rw [← hf]; exact List.getElem_mem hcl
    have hcm := hcmp f hfm
    have hlt3 : (c : Int) < l.length := by omega
    have hw1 : IntKind.i64.wrap ((c : Int) + 1) = ((c + 1 : Nat) : Int) := by rw [wrap_i64 (by omega) (by omega)]; rfl
    refine Rkf (jn7 @e9 @e10 @hsum @hu @h10 @hfd @hback) ?_
    refine Rgf (jn6 @e0 @e1 @e2 @hlm @hlt3 @hge) (fun E K hE hK => ?_)
    refine ⟨by omega, ?_⟩
    refine Us (order_ok f p _ _) body_78 ?_
    refine Evf @hcm ?_
    refine hK _ _ _ ?_; clear hE hK K E
    by_cases hneg : cK f.name p < 0
    · have hk : c < kL p l := by
        by_cases q : c < kL p l
        · exact q
        · exact absurd (by rw [hf]; exact hneg) (kL_hi (q := none) hcl htab (by omega))
      refine Btf @hneg ?_
      refine Raf @hw1 (fun E K hE hK => ?_); refine hK _ _ _ ?_; clear hE hK K E
      exact ⟨rfl, j - (c + 1), by omega, c + 1, j, by omega, by omega, by omega, rfl, rfl, by exact Ecf @e0, by exact Ecf @e1, by exact Ecf @e2, by exact Ecf @e8, by exact Er, by exact Ecf @e10⟩
    · have hk : kL p l ≤ c := by
        by_cases q : kL p l ≤ c
        · exact q
        · exact absurd (by have := kL_lo (p := p) hcl (by omega); rw [hf] at this; exact this) hneg
      refine Bff @hneg ?_
      refine Ra (fun E K hE hK => ?_); refine hK _ _ _ ?_; clear hE hK K E
      exact ⟨rfl, c - i, by omega, i, c, by omega, by omega, by omega, rfl, rfl, by exact Ecf @e0, by exact Ecf @e1, by exact Ecf @e2, by exact Ecf @e8, by exact Ecf @e9, by exact Er⟩
  · refine Bff @hlt ?_
    refine AWP.exit ?_
    refine Ev ?_
    have hij : i = kL p l := by omega
    subst hij
    have hfin : ∀ (t : Nat → AV) (n : Nat), t 6 = IntV (kL p l) → t 7 = BoolV (hasL p l) → Am.Ends Tryd.prog ⟨Tryd.f109.ntmps, b, ι, hh, w, x0⟩ Tryd.f109 0 (fun r h' => r = .tup [IntV (kL p l), BoolV (hasL p l)] ∧ h' = hh) ⟨t, hh, n⟩ := by
      intro t n g6 g7
      exact Ends.pure hn H (fun _ _ => rfl) (r0 := .tup [IntV (kL p l), BoolV (hasL p l)]) (by rw [show Tryd.f109.results.toList = [.tmp 6, .tmp 7] from rfl]; exact Ecf (jn2 @g6 @g7)) (frz_tup2 (.v _) (.v _)) ⟨rfl, rfl⟩
    by_cases hkn : ((kL p l : Nat) : Int) < l.length
    · have hk2 : kL p l < l.length := by omega
      have hge := encF_getD l (kL p l) hk2
      have hhas := hasL_k (p := p) (l := l)
      obtain ⟨f, hf⟩ : ∃ f, l[kL p l] = f := ⟨_, rfl⟩
      rw [hf] at hge
      have hfm : f ∈ l := by rw [← hf]; exact List.getElem_mem hk2
      have hcm := hcmp f hfm
      have hd : hasL p l = decide (cK f.name p = 0) := by
        rw [Bool.eq_iff_iff, hhas, decide_eq_true_eq]
        exact ⟨fun ⟨_, e⟩ => by rw [← hf]; exact e, fun e => ⟨hk2, by rw [hf]; exact e⟩⟩
      refine Rgf (jn2 @e0 (jn7 @e1 @e2 @e8 @e9 @hlm @hkn @hge)) (fun E K hE hK => ?_)
      refine ⟨by omega, ?_⟩
      refine Us (order_ok f p _ _) body_78 ?_
      refine Evf @hcm ?_
      refine hK _ _ _ ?_; clear hE hK K E
      refine AWP.ret ?_
      exact hfin _ _ (by exact Er) (by rw [hd]; exact Er)
    · have hd : hasL p l = false := by
        rw [← Bool.not_eq_true, hasL_k]
        rintro ⟨h1, _⟩; omega
      refine Rkf (jn7 @e0 @e1 @e2 @e8 @e9 @hlm @hkn) ?_
      refine AWP.ret ?_
      exact hfin _ _ (by exact Er) (by rw [hd]; exact Er)

def findR (l : List Fl) (p : S) : Nat × Bool × Int := if checkT l ≠ 0 ∨ chkN p ≠ 0 then (0, false, 1) else (kL p l, hasL p l, 0)

theorem find_ok (l : List Fl) (p : S) (hl : l.length ≤ 1000000) (h : Heap) (b : Nat) :
    ACalls Tryd.prog 73 [FlsV l, StrV p] h b 0 (fun r h' => r = .tup [IntV (findR l p).1, BoolV (findR l p).2.1, IntV (findR l p).2.2] ∧ h' = h) := by
  refine ACalls.enter Tryd.func73 rfl (by simp [Tryd.ntmps73]) (fun ι w hn H => ?_)
  have fin : ∀ (t : Nat → AV) (n : Nat) (v : Nat × Bool × Int), t 4 = IntV v.1 → t 5 = BoolV v.2.1 → t 6 = IntV v.2.2 → v = findR l p → Am.Ends Tryd.prog ⟨Tryd.f73.ntmps, b, ι, h, w, x0⟩ Tryd.f73 0 (fun r h' => r = .tup [IntV (findR l p).1, BoolV (findR l p).2.1, IntV (findR l p).2.2] ∧ h' = h) ⟨t, h, n⟩ := by
    intro t n v g4 g5 g6 hv
    exact Ends.pure hn H (fun _ _ => rfl) (r0 := .tup [IntV v.1, BoolV v.2.1, IntV v.2.2]) (by rw [show Tryd.f73.results.toList = [.tmp 4, .tmp 5, .tmp 6] from rfl]; exact Ecf (jn3 @g4 @g5 @g6)) (frz_tup3 (.v _) (.v _) (.v _)) ⟨by rw [hv], rfl⟩
  refine Rk ?_
  refine AWP.seq ?_
  by_cases c1 : checkT l = 0
  case neg =>
    refine Rg (fun E K hE hK => ?_)
    refine Us (tCheck_ok l hl _ _) body_39 ?_
    refine Evf @c1 ?_
    refine hK _ _ _ ?_; clear hE hK K E
    refine Bt ?_
    refine Rk ?_
    refine AWP.ret ?_
    refine Ev ?_
    exact fin _ _ (0, false, 1) (by exact Er) (by exact Er) (by exact Er) (by unfold findR; rw [if_pos (.inl c1)])
  by_cases c2 : chkN p = 0
  case neg =>
    refine Rg (fun E K hE hK => ?_)
    refine Us (tCheck_ok l hl _ _) body_39 ?_
    refine Evf @c1 ?_
    refine Us (Check_ok (mkS p) _ _) body_35 ?_
    refine Evf (jn2 @mkS_list @c2) ?_
    refine hK _ _ _ ?_; clear hE hK K E
    refine Bt ?_
    refine Rk ?_
    refine AWP.ret ?_
    refine Ev ?_
    exact fin _ _ (0, false, 1) (by exact Er) (by exact Er) (by exact Er) (by unfold findR; rw [if_pos (.inr c2)])
  refine Rg (fun E K hE hK => ?_)
  refine Us (tCheck_ok l hl _ _) body_39 ?_
  refine Evf @c1 ?_
  refine Us (Check_ok (mkS p) _ _) body_35 ?_
  refine Evf (jn2 @mkS_list @c2) ?_
  refine hK _ _ _ ?_; clear hE hK K E
  refine Bs ?_
  cases hhas : hasL p l
  all_goals
    refine Rg (fun E K hE hK => ?_)
    refine Us (bsearch_ok l p hl c1 c2 _ _) body_109 ?_
    refine Evf @hhas ?_
    refine hK _ _ _ ?_; clear hE hK K E
    refine Rk ?_
    refine AWP.ret ?_
    exact fin _ _ (kL p l, hasL p l, 0) (by exact Er) (by rw [hhas]; exact Er) (by exact Er) (by unfold findR; rw [if_neg (by simp [c1, c2])])

end Go.Proofs.YtengjcdilnikhaaDoor
