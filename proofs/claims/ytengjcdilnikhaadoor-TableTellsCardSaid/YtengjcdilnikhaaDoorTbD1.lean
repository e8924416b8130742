/-
  Walks of the reference for tables: May, Check, find, Get; Walks of the reference for tables: find, Get, without, with; Walks of the reference for tables: with, Put, Del, Move; Walks of the reference for tables: Put, Del, Move; Walk of the reference for tables: Move.
-/
import Derived.Test.YtengjcdilnikhaaDoorTbW5
import Derived.Test.YtengjcdilnikhaaDoorNmD1
import Derived.Test.YtengjcdilnikhaaDoorTbSpec
import Derived.Test.YtengjcdilnikhaaDoorTbW6
namespace Go.Proofs.YtengjcdilnikhaaDoor
set_option linter.unusedSimpArgs false
set_option linter.unusedVariables false
set_option linter.unnecessarySimpa false
open Go Am
set_option maxRecDepth 100000

theorem rMayF_ok (f : Fl) (hs : f.name.length ≤ 1000) (h : Heap) (b : Nat) : ACalls Tryd.prog 85 [FlV f] h b 0 (fun r h' => r = BoolV (mayF f) ∧ h' = h) := by
  refine ACalls.enter Tryd.func85 rfl (by simp [Tryd.ntmps85]) (fun ι w hn H => ?_)
  have hms : (mkS f.name).size ≤ 1000 := by rw [mkS_size]; exact hs
  have fin : ∀ (t : Nat → AV) (hh : Heap) (n : Nat) (v : Bool), t 2 = BoolV v → (∀ id, id < b → hh id = h id) → v = mayF f → Am.Ends Tryd.prog ⟨Tryd.f85.ntmps, b, ι, h, w, x0⟩ Tryd.f85 0 (fun r h' => r = BoolV (mayF f) ∧ h' = h) ⟨t, hh, n⟩ := by
    intro t hh n v ht ho hv
    exact Ends.pure hn H ho (r0 := BoolV v) (by rw [show Tryd.f85.results.toList = [.tmp 2] from rfl]; exact Ecf @ht) (.v _) ⟨by rw [hv], rfl⟩
  refine Rk ?_
  by_cases c0 : chkN f.name = 0
  case neg =>
    refine Rg (fun E K hE hK => ?_)
    refine Us (rCheck_ok (mkS f.name) hms _ _) body_89 ?_
    refine Evf (jn2 @mkS_list @c0) ?_
    refine hK _ _ _ ?_; clear hE hK K E
    refine AWP.ret ?_
    exact fin _ _ _ false (by exact Er) Ou (by unfold mayF; simp [c0])
  by_cases c1 : 0 ≤ f.blk
  case neg =>
    refine Rg (fun E K hE hK => ?_)
    refine Us (rCheck_ok (mkS f.name) hms _ _) body_89 ?_
    refine Evf (jn3 @mkS_list @c0 @c1) ?_
    refine hK _ _ _ ?_; clear hE hK K E
    refine AWP.ret ?_
    exact fin _ _ _ false (by exact Er) Ou (by unfold mayF; simp [c1])
  by_cases c2 : f.blk ≤ 8192
  case neg =>
    refine Rg (fun E K hE hK => ?_)
    refine Us (rCheck_ok (mkS f.name) hms _ _) body_89 ?_
    refine Evf (jn4 @mkS_list @c0 @c1 @c2) ?_
    refine hK _ _ _ ?_; clear hE hK K E
    refine AWP.ret ?_
    exact fin _ _ _ false (by exact Er) Ou (by unfold mayF; simp [c2])
  by_cases c3 : 0 ≤ f.frm
  case neg =>
    refine Rg (fun E K hE hK => ?_)
    refine Us (rCheck_ok (mkS f.name) hms _ _) body_89 ?_
    refine Evf (jn5 @mkS_list @c0 @c1 @c2 @c3) ?_
    refine hK _ _ _ ?_; clear hE hK K E
    refine AWP.ret ?_
    exact fin _ _ _ false (by exact Er) Ou (by unfold mayF; simp [c3])
  by_cases c4 : f.frm ≤ 65536
  case neg =>
    refine Rg (fun E K hE hK => ?_)
    refine Us (rCheck_ok (mkS f.name) hms _ _) body_89 ?_
    refine Evf (jn6 @mkS_list @c0 @c1 @c2 @c3 @c4) ?_
    refine hK _ _ _ ?_; clear hE hK K E
    refine AWP.ret ?_
    exact fin _ _ _ false (by exact Er) Ou (by unfold mayF; simp [c4])
  by_cases c5 : 0 ≤ f.len
  case neg =>
    refine Rg (fun E K hE hK => ?_)
    refine Us (rCheck_ok (mkS f.name) hms _ _) body_89 ?_
    refine Evf (jn7 @mkS_list @c0 @c1 @c2 @c3 @c4 @c5) ?_
    refine hK _ _ _ ?_; clear hE hK K E
    refine AWP.ret ?_
    exact fin _ _ _ false (by exact Er) Ou (by unfold mayF; simp [c5])
  have hw : IntKind.i64.wrap (65536 - f.frm) = 65536 - f.frm := wrap_i64 (by omega) (by omega)
  by_cases c6 : f.len ≤ 65536 - f.frm
  case neg =>
    refine Rg (fun E K hE hK => ?_)
    refine Us (rCheck_ok (mkS f.name) hms _ _) body_89 ?_
    refine Evf (jn3 @mkS_list @c0 (jn7 @c1 @c2 @c3 @c4 @c5 @c6 @hw)) ?_
    refine hK _ _ _ ?_; clear hE hK K E
    refine AWP.ret ?_
    exact fin _ _ _ false (by exact Er) Ou (by unfold mayF; simp [c6])
  refine Rg (fun E K hE hK => ?_)
  refine Us (rCheck_ok (mkS f.name) hms _ _) body_89 ?_
  refine Evf (jn3 @mkS_list @c0 (jn7 @c1 @c2 @c3 @c4 @c5 @c6 @hw)) ?_
  refine hK _ _ _ ?_; clear hE hK K E
  refine AWP.ret ?_
  exact fin _ _ _ true (by exact Er) Ou (by unfold mayF; simp [c0, c1, c2, c3, c4, c5, c6])

def rtCkI (l : List Fl) (h : Heap) (b i : Nat) (st : St) : Prop :=
  (∀ id, id < b → st.h id = h id) ∧ st.t 0 = FlsV l ∧ st.t 8 = FlsV l ∧ st.t 9 = IntV l.length ∧ st.t 10 = IntV (i : Nat) ∧ tabF none l = tabF (prevN l i) (l.drop i) ∧ ∀ f ∈ l.take i, mayF f = true

theorem rCheckT_ok (l : List Fl) (hl : l.length ≤ 1000000) (hs : ∀ f ∈ l, f.name.length ≤ 1000) (h : Heap) (b : Nat) : ACalls Tryd.prog 51 [FlsV l] h b 0 (fun r h' => r = IntV (checkT l) ∧ h' = h) := by
  refine ACalls.enter Tryd.func51 rfl (by simp [Tryd.ntmps51]) (fun ι w hn H => ?_)
  have hlow := H.lowCells
  have hlm : (l.map encF).length = l.length := List.length_map _
  have fin : ∀ (t : Nat → AV) (hh : Heap) (n : Nat) (v : Int), t 2 = IntV v → (∀ id, id < b → hh id = h id) → v = checkT l → Am.Ends Tryd.prog ⟨Tryd.f51.ntmps, b, ι, h, w, x0⟩ Tryd.f51 0 (fun r h' => r = IntV (checkT l) ∧ h' = h) ⟨t, hh, n⟩ := by
    intro t hh n v ht ho hv
    exact Ends.pure hn H ho (r0 := IntV v) (by rw [show Tryd.f51.results.toList = [.tmp 2] from rfl]; exact Ecf @ht) (.v _) ⟨by rw [hv], rfl⟩
  refine Rk ?_
  refine AWP.seq ?_
  by_cases c0 : (256 : Int) < l.length
  · refine Rkf (jn2 @hlm @c0) ?_
    refine Bt ?_
    refine Rk ?_
    refine AWP.ret ?_
    refine Ev ?_
    exact fin _ _ _ 1 (by exact Er) Ou (by unfold checkT; rw [if_pos (by omega)])
  have hcx : checkT l = if tabF none l = true then 0 else 1 := by unfold checkT; rw [if_neg (by omega)]
  refine Rkf (jn2 @hlm @c0) ?_
  refine Bs ?_
  refine AWP.seq ?_
  refine Rkf @hlm ?_
  refine AWP.block ?_
  refine AWP.loopM 0 (fun m st => ∃ i, i ≤ l.length ∧ m = l.length - i ∧ rtCkI l h b i st) l.length rfl ⟨0, Nat.zero_le _, rfl, Ou, by exact Er, by exact Er, by exact Er, by exact Er, rfl, by simp⟩ ?_
  rintro m ⟨t, hh, n⟩ ⟨i, hi, rfl, ho, e0, e8, e9, e10, hc, hmay⟩ hn1
  simp only at ho e0 e8 e9 e10 hn1
  subst hn1
  refine Rkf (jn2 @e9 @e10) ?_
  refine AWP.seq ?_
  by_cases hlt : (i : Int) < l.length
  · have hw1 : IntKind.i64.wrap ((i : Int) + 1) = ((i + 1 : Nat) : Int) := by rw [wrap_i64 (by omega) (by omega)]; rfl
    have hi2 : i < l.length := by omega
    have hge := encF_getD l i hi2
    obtain ⟨f, hf⟩ : ∃ f, l[i] = f := ⟨_, rfl⟩
    have hdr : l.drop i = f :: l.drop (i + 1) := by rw [List.drop_eq_getElem_cons hi2, hf]
    have hpn : prevN l (i + 1) = some f.name := by unfold prevN; rw [if_neg (by omega), Nat.add_sub_cancel, List.getElem?_eq_getElem hi2, hf]; rfl
    rw [hf] at hge
    have hfs : f.name.length ≤ 1000 := hs f (by rw [← hf]; exact List.getElem_mem hi2)
    have hfs2 : (mkS f.name).size ≤ 1000 := by rw [mkS_size]; exact hfs
    have hc2 : tabF none l = (mayF f && (aheadF (prevN l i) f.name && tabF (some f.name) (l.drop (i + 1)))) := by rw [hc, hdr]; rfl
    have hnext : mayF f = true → aheadF (prevN l i) f.name = true → tabF none l = tabF (prevN l (i + 1)) (l.drop (i + 1)) := by
      intro g1 g2; rw [hc2, g1, g2, hpn]; rfl
    have hmay2 : mayF f = true → ∀ x ∈ l.take (i + 1), mayF x = true := by
      intro g x hx
      rw [List.take_add_one, List.getElem?_eq_getElem hi2, hf] at hx
      rcases List.mem_append.1 hx with hx | hx
      · exact hmay x hx
      · simp at hx; subst hx; exact g
    have bad : tabF none l = false → 1 = checkT l := fun e => by rw [hcx, e]; rfl
    refine Btf @hlt ?_
    refine AWP.skip ?_
    refine Ev ?_
    refine AWP.seq ?_
    refine AWP.block ?_
    refine Rgf (jn5 @e8 @e10 @hlm @hlt @hge) (fun E K hE hK => ?_)
    refine ⟨by omega, ?_⟩
    refine hK _ _ _ ?_; clear hE hK K E
    cases c1 : mayF f
    · refine AWP.seqRegDG [] [] [] mixed (drawF_ok (by kernel_rfl)) (by kernel_rfl) (fun K hK => ?_); simp -implicitDefEqProofs only [go_sem, ↓reduceIte, Nat.reduceEqDiff, Nat.reduceAdd, Nat.reduceLT, Nat.reduceLeDiff, reduceCtorEq, Int.toNat_natCast, decide_true]
      refine Ud (rMayF_ok f hfs _ _) body_85 ?_
      try (refine Evf @c1 ?_)
      repeat (first | (refine Gd 18 ?_) | (refine Gd 21 ?_) | (refine ⟨by omega, ?_⟩))
      refine hK _ _ _ ?_; clear hK K
      refine Bt ?_
      refine Rk ?_
      refine AWP.ret ?_
      refine Ev ?_
      exact fin _ _ _ 1 (by exact Er) (Ouf @ho) (bad (by rw [hc2, c1]; rfl))
    by_cases h0 : i = 0
    · have h0' : ¬ (0 : Int) < i := by omega
      refine AWP.seqRegDG [] [] [] mixed (drawF_ok (by kernel_rfl)) (by kernel_rfl) (fun K hK => ?_); simp -implicitDefEqProofs only [go_sem, ↓reduceIte, Nat.reduceEqDiff, Nat.reduceAdd, Nat.reduceLT, Nat.reduceLeDiff, reduceCtorEq, Int.toNat_natCast, h0']
      refine Ud (rMayF_ok f hfs _ _) body_85 ?_
      try (refine Evf @c1 ?_)
      repeat (first | (refine Gdf 18 @h0' ?_) | (refine Gdf 21 @h0' ?_) | (refine ⟨by omega, ?_⟩))
      refine hK _ _ _ ?_; clear hK K
      refine Bf ?_
      refine AWP.skip ?_
      refine Ev ?_
      refine Raf (jn2 @e10 @hw1) (fun E K hE hK => ?_); refine hK _ _ _ ?_; clear hE hK K E
      exact ⟨l.length - (i + 1), by omega, i + 1, by omega, rfl, cutH_outer (Nat.le_refl _) (Ouf @ho) hlow, by exact Ecf @e0, by exact Ecf @e8, by exact Ecf @e9, by exact Er, hnext c1 (by unfold prevN; rw [if_pos h0]; rfl), hmay2 c1⟩
    have h0' : (0 : Int) < i := by omega
    have hi3 : i - 1 < l.length := by omega
    have hge2 := encF_getD l (i - 1) hi3
    have hwm : IntKind.i64.wrap ((i : Int) - 1) = ((i - 1 : Nat) : Int) := by rw [wrap_i64 (by omega) (by omega)]; omega
    have hlt2 : ((i - 1 : Nat) : Int) < l.length := by omega
    obtain ⟨g, hg⟩ : ∃ g, l[i - 1] = g := ⟨_, rfl⟩
    have hpi : prevN l i = some g.name := by unfold prevN; rw [if_neg h0, List.getElem?_eq_getElem hi3, hg]; rfl
    rw [hg] at hge2
    have hgs : (mkS g.name).size ≤ 1000 := by rw [mkS_size, ← hg]; exact hs _ (List.getElem_mem hi3)
    have hgm : mayF g = true := hmay g (by
      have : l[i - 1]? = (l.take i)[i - 1]? := by rw [List.getElem?_take, if_pos (by omega)]
      rw [List.getElem?_eq_getElem hi3, hg] at this
      exact List.mem_of_getElem? this.symm)
    by_cases c3 : 0 ≤ cK g.name f.name
    · have hcm2 : decide (cmpP (parts g.name) (parts f.name) < 0) = false := decide_eq_false (show ¬ cK g.name f.name < 0 by omega)
      have hcm := hcm2
      refine AWP.seqRegDG [] [] [] mixed (drawF_ok (by kernel_rfl)) (by kernel_rfl) (fun K hK => ?_); simp -implicitDefEqProofs only [go_sem, ↓reduceIte, Nat.reduceEqDiff, Nat.reduceAdd, Nat.reduceLT, Nat.reduceLeDiff, reduceCtorEq, Int.toNat_natCast, h0', e0, hwm, hlm, hlt2, hge2]
      refine Ud (rMayF_ok f hfs _ _) body_85 ?_
      try (refine Evf @c1 ?_)
      repeat (first | (refine Gdf 18 (jn6 @h0' @e0 @hwm @hlm @hlt2 @hge2) ?_) | (refine Gdf 21 (jn6 @h0' @e0 @hwm @hlm @hlt2 @hge2) ?_) | (refine ⟨by omega, ?_⟩))
      refine Ud (rLess_ok (mkS g.name) (mkS f.name) hgs hfs2 _ _) body_90 ?_
      try (refine Evf (jn3 @mkS_list @hcm @hcm2) ?_)
      repeat (first | (refine Gdf 18 (jn6 @h0' @e0 @hwm @hlm @hlt2 @hge2) ?_) | (refine Gdf 21 (jn6 @h0' @e0 @hwm @hlm @hlt2 @hge2) ?_) | (refine ⟨by omega, ?_⟩))
      refine hK _ _ _ ?_; clear hK K
      refine Bt ?_
      refine Rk ?_
      refine AWP.ret ?_
      refine Ev ?_
      exact fin _ _ _ 1 (by exact Er) (Ouf @ho) (bad (by rw [hc2, hpi]; show (mayF f && (decide (cK g.name f.name < 0) && _)) = false; rw [decide_eq_false (show ¬ cK g.name f.name < 0 by omega)]; simp))
    · have hcm2 : decide (cmpP (parts g.name) (parts f.name) < 0) = true := decide_eq_true (show cK g.name f.name < 0 by omega)
      have hcm := hcm2
      refine AWP.seqRegDG [] [] [] mixed (drawF_ok (by kernel_rfl)) (by kernel_rfl) (fun K hK => ?_); simp -implicitDefEqProofs only [go_sem, ↓reduceIte, Nat.reduceEqDiff, Nat.reduceAdd, Nat.reduceLT, Nat.reduceLeDiff, reduceCtorEq, Int.toNat_natCast, h0', e0, hwm, hlm, hlt2, hge2]
      refine Ud (rMayF_ok f hfs _ _) body_85 ?_
      try (refine Evf @c1 ?_)
      repeat (first | (refine Gdf 18 (jn6 @h0' @e0 @hwm @hlm @hlt2 @hge2) ?_) | (refine Gdf 21 (jn6 @h0' @e0 @hwm @hlm @hlt2 @hge2) ?_) | (refine ⟨by omega, ?_⟩))
      refine Ud (rLess_ok (mkS g.name) (mkS f.name) hgs hfs2 _ _) body_90 ?_
      try (refine Evf (jn3 @mkS_list @hcm @hcm2) ?_)
      repeat (first | (refine Gdf 18 (jn6 @h0' @e0 @hwm @hlm @hlt2 @hge2) ?_) | (refine Gdf 21 (jn6 @h0' @e0 @hwm @hlm @hlt2 @hge2) ?_) | (refine ⟨by omega, ?_⟩))
      refine hK _ _ _ ?_; clear hK K
      refine Bf ?_
      refine AWP.skip ?_
      refine Ev ?_
      refine Raf (jn2 @e10 @hw1) (fun E K hE hK => ?_); refine hK _ _ _ ?_; clear hE hK K E
      exact ⟨l.length - (i + 1), by omega, i + 1, by omega, rfl, cutH_outer (Nat.le_refl _) (Ouf @ho) hlow, by exact Ecf @e0, by exact Ecf @e8, by exact Ecf @e9, by exact Er, hnext c1 (by rw [hpi]; unfold aheadF; simp only [decide_eq_true_eq]; omega), hmay2 c1⟩
  · refine Bff @hlt ?_
    refine AWP.exit ?_
    refine Ev ?_
    refine Rk ?_
    refine AWP.ret ?_
    refine fin _ _ _ 0 (by exact Er) ho ?_
    have : i = l.length := by omega
    subst this
    rw [hcx, hc, List.drop_length]
    cases prevN l l.length <;> rfl

end Go.Proofs.YtengjcdilnikhaaDoor

namespace Go.Proofs.YtengjcdilnikhaaDoor
set_option linter.unusedSimpArgs false
set_option linter.unusedVariables false
set_option linter.unnecessarySimpa false
open Go Am
set_option maxRecDepth 100000

def rFiI (l : List Fl) (p : S) (h : Heap) (b i : Nat) (st : St) : Prop :=
  (∀ id, id < b → st.h id = h id) ∧ st.t 1 = StrV p ∧ st.t 7 = FlsV l ∧ st.t 8 = IntV l.length ∧ st.t 9 = IntV (i : Nat) ∧ idxFrom (fun f : Fl => decide (f.name = p)) 0 l = idxFrom (fun f : Fl => decide (f.name = p)) i (l.drop i)

theorem rFind_ok (l : List Fl) (p : S) (hl : l.length ≤ 1000000) (h : Heap) (b : Nat) : ACalls Tryd.prog 86 [FlsV l, StrV p] h b 0 (fun r h' => r = IntV (idxFrom (fun f : Fl => decide (f.name = p)) 0 l) ∧ h' = h) := by
  refine ACalls.enter Tryd.func86 rfl (by simp [Tryd.ntmps86]) (fun ι w hn H => ?_)
  have hlow := H.lowCells
  have hlm : (l.map encF).length = l.length := List.length_map _
  have fin : ∀ (t : Nat → AV) (hh : Heap) (n : Nat) (v : Int), t 4 = IntV v → (∀ id, id < b → hh id = h id) → v = idxFrom (fun f : Fl => decide (f.name = p)) 0 l → Am.Ends Tryd.prog ⟨Tryd.f86.ntmps, b, ι, h, w, x0⟩ Tryd.f86 0 (fun r h' => r = IntV (idxFrom (fun f : Fl => decide (f.name = p)) 0 l) ∧ h' = h) ⟨t, hh, n⟩ := by
    intro t hh n v ht ho hv
    exact Ends.pure hn H ho (r0 := IntV v) (by rw [show Tryd.f86.results.toList = [.tmp 4] from rfl]; exact Ecf @ht) (.v _) ⟨by rw [hv], rfl⟩
  refine Rk ?_
  refine AWP.seq ?_
  refine Rkf @hlm ?_
  refine AWP.block ?_
  refine AWP.loopM 0 (fun m st => ∃ i, i ≤ l.length ∧ m = l.length - i ∧ rFiI l p h b i st) l.length rfl ⟨0, Nat.zero_le _, rfl, Ou, by exact Er, by exact Er, by exact Er, by exact Er, rfl⟩ ?_
  rintro m ⟨t, hh, n⟩ ⟨i, hi, rfl, ho, e1, e7, e8, e9, hx⟩ hn1
  simp only at ho e1 e7 e8 e9 hn1
  subst hn1
  refine Rkf (jn2 @e8 @e9) ?_
  refine AWP.seq ?_
  by_cases hlt : (i : Int) < l.length
  · have hw1 : IntKind.i64.wrap ((i : Int) + 1) = ((i + 1 : Nat) : Int) := by rw [wrap_i64 (by omega) (by omega)]; rfl
    have hi2 : i < l.length := by omega
    have hge := encF_getD l i hi2
    obtain ⟨f, hf⟩ : ∃ f, l[i] = f := ⟨_, rfl⟩
    have hstep : idxFrom (fun f : Fl => decide (f.name = p)) i (l.drop i) = if decide (f.name = p) = true then (i : Int) else idxFrom (fun f : Fl => decide (f.name = p)) (i + 1) (l.drop (i + 1)) := by
      rw [List.drop_eq_getElem_cons hi2, hf]; rfl
    rw [hf] at hge
    refine Btf @hlt ?_
    refine AWP.skip ?_
    refine Ev ?_
    refine AWP.seq ?_
    refine AWP.block ?_
    refine Rgf (jn5 @e7 @e9 @hlm @hlt @hge) (fun E K hE hK => ?_)
    refine ⟨by omega, ?_⟩
    refine hK _ _ _ ?_; clear hE hK K E
    by_cases hp : f.name = p
    · rw [if_pos (decide_eq_true hp)] at hstep
      have hd : (f.name = p) = True := eq_true hp
      refine Rkf (jn3 @e1 @mkS_list @hd) ?_
      refine Bt ?_
      refine Rk ?_
      refine AWP.ret ?_
      refine Ev ?_
      exact fin _ _ _ (i : Nat) (by exact Er) (Ouf @ho) (by rw [hx, hstep])
    · rw [if_neg (by simp [hp])] at hstep
      have hd : (f.name = p) = False := eq_false hp
      refine Rkf (jn3 @e1 @mkS_list @hd) ?_
      refine Bf ?_
      refine AWP.skip ?_
      refine Ev ?_
      refine Raf (jn2 @e9 @hw1) (fun E K hE hK => ?_); refine hK _ _ _ ?_; clear hE hK K E
      exact ⟨l.length - (i + 1), by omega, i + 1, by omega, rfl, cutH_outer (Nat.le_refl _) (Ouf @ho) hlow, by exact Ecf @e1, by exact Ecf @e7, by exact Ecf @e8, by exact Er, by rw [hx, hstep]⟩
  · refine Bff @hlt ?_
    refine AWP.exit ?_
    refine Ev ?_
    refine Rk ?_
    refine AWP.ret ?_
    refine fin _ _ _ (-1) (by exact Er) ho ?_
    have : i = l.length := by omega
    subst this
    rw [hx]; simp [idxFrom]

theorem rGetT_ok (l : List Fl) (p : S) (hl : l.length ≤ 1000000) (hs : ∀ f ∈ l, f.name.length ≤ 1000) (hp : p.length ≤ 1000) (h : Heap) (b : Nat) :
    ACalls Tryd.prog 49 [FlsV l, StrV p] h b 0 (fun r h' => r = .tup [FlV (getR l p).1, IntV (getR l p).2] ∧ h' = h) := by
  refine ACalls.enter Tryd.func49 rfl (by simp [Tryd.ntmps49]) (fun ι w hn H => ?_)
  have hlm : (l.map encF).length = l.length := List.length_map _
  have hps : (mkS p).size ≤ 1000 := by rw [mkS_size]; exact hp
  have frzF : ∀ (hh : Heap) (f : Fl), frzV hh b (FlV f) (FlV f) := fun hh f => .agg rfl (by
    intro i c d hc hd
    have : c = d := Option.some.inj (hc.symm.trans hd)
    subst this
    obtain ⟨x, _, rfl⟩ := List.mem_map.1 (List.mem_of_getElem? hc)
    exact .inl ⟨rfl, rfl⟩)
  have fin : ∀ (t : Nat → AV) (hh : Heap) (n : Nat) (v : Fl × Int), t 4 = .one (.ptr b 0 0) → hh b = some ⟨0, (encF v.1).map .p⟩ → t 5 = IntV v.2 → (∀ id, id < b → hh id = h id) → v = getR l p → Am.Ends Tryd.prog ⟨Tryd.f49.ntmps, b, ι, h, w, x0⟩ Tryd.f49 0 (fun r h' => r = .tup [FlV (getR l p).1, IntV (getR l p).2] ∧ h' = h) ⟨t, hh, n⟩ := by
    intro t hh n v ht hb ht2 ho hv
    exact Ends.pure hn H ho (r0 := .tup [FlV v.1, IntV v.2]) (by rw [show Tryd.f49.results.toList = [.cell 4 60, .tmp 5] from rfl]; (first | (simp -implicitDefEqProofs only [go_sem, ↓reduceIte, Nat.reduceEqDiff, Nat.reduceAdd, Nat.reduceLT, Nat.reduceLeDiff, reduceCtorEq, Int.toNat_natCast, ht, hb, ht2, encF]; first | done | rfl) | rfl)) (frz_tup2 (frzF _ _) (.v _)) ⟨by rw [hv], rfl⟩
  refine Rk ?_
  refine AWP.seq ?_
  by_cases c1 : checkT l = 0
  case neg =>
    refine Rg (fun E K hE hK => ?_)
    refine Us (rCheckT_ok l hl hs _ _) body_51 ?_
    refine Evf @c1 ?_
    refine hK _ _ _ ?_; clear hE hK K E
    refine Bt ?_
    refine Rk ?_
    refine AWP.ret ?_
    refine Ev ?_
    exact fin _ _ _ (zeroF, 1) (by exact Er) (by exact Er) (by exact Er) Ou (by unfold getR; rw [if_pos (.inl c1)])
  by_cases c2 : chkN p = 0
  case neg =>
    refine Rg (fun E K hE hK => ?_)
    refine Us (rCheckT_ok l hl hs _ _) body_51 ?_
    refine Evf @c1 ?_
    refine Us (rCheck_ok (mkS p) hps _ _) body_89 ?_
    refine Evf (jn2 @mkS_list @c2) ?_
    refine hK _ _ _ ?_; clear hE hK K E
    refine Bt ?_
    refine Rk ?_
    refine AWP.ret ?_
    refine Ev ?_
    exact fin _ _ _ (zeroF, 1) (by exact Er) (by exact Er) (by exact Er) Ou (by unfold getR; rw [if_pos (.inr c2)])
  have hfe := find_eq (p := p) 0 (checkT_zero.1 c1).2
  refine Rg (fun E K hE hK => ?_)
  refine Us (rCheckT_ok l hl hs _ _) body_51 ?_
  refine Evf @c1 ?_
  refine Us (rCheck_ok (mkS p) hps _ _) body_89 ?_
  refine Evf (jn2 @mkS_list @c2) ?_
  refine hK _ _ _ ?_; clear hE hK K E
  refine Bs ?_
  cases hhas : hasL p l
  · rw [hhas, if_neg (by decide)] at hfe
    refine Rg (fun E K hE hK => ?_)
    refine Us (rFind_ok l p hl _ _) body_86 ?_
    refine Evf @hfe ?_
    refine hK _ _ _ ?_; clear hE hK K E
    refine AWP.seq ?_
    refine Rkf (show (-1 : Int) < 0 by decide) ?_
    refine Bt ?_
    refine Rk ?_
    refine AWP.ret ?_
    refine Ev ?_
    exact fin _ _ _ (zeroF, 4) (by exact Er) (by exact Er) (by exact Er) Ou (by unfold getR; rw [if_neg (by simp [c1, c2]), if_neg (by simp [hhas])])
  · rw [hhas, if_pos rfl, Nat.zero_add] at hfe
    obtain ⟨hk, hk2⟩ := hasL_k.1 hhas
    have hkn : ((kL p l : Nat) : Int) < l.length := by omega
    have hge := encF_getD l (kL p l) hk
    have hgd : l.getD (kL p l) zeroF = l[kL p l] := by simp [List.getD, hk]
    refine Rg (fun E K hE hK => ?_)
    refine Us (rFind_ok l p hl _ _) body_86 ?_
    refine Evf @hfe ?_
    refine hK _ _ _ ?_; clear hE hK K E
    refine AWP.seq ?_
    refine Rkf (show ¬ ((kL p l : Nat) : Int) < 0 by omega) ?_
    refine Bs ?_
    refine Rgf (jn3 @hlm @hkn @hge) (fun E K hE hK => ?_)
    refine ⟨by omega, ?_⟩
    refine hK _ _ _ ?_; clear hE hK K E
    refine AWP.ret ?_
    exact fin _ _ _ (l[kL p l], 0) (by exact Er) (by exact Er) (by exact Er) Ou (by unfold getR; rw [if_neg (by simp [c1, c2]), if_pos hhas, hgd])

/-! ### without -/
def rWoI (l : List Fl) (p : S) (h : Heap) (b i : Nat) (st : St) : Prop :=
  ∃ ver cap, FlRow st.h b ver cap ((l.take i).filter (fun f => !decide (f.name = p))) ∧ (∀ id, id < b → st.h id = h id) ∧ st.t 1 = StrV p ∧ st.t 5 = .one (.win b ver 0 ((l.take i).filter (fun f => !decide (f.name = p))).length cap) ∧ st.t 8 = FlsV l ∧ st.t 9 = IntV l.length ∧ st.t 10 = IntV (i : Nat)

theorem rWithout_ok (l : List Fl) (p : S) (hl : l.length ≤ 100000) (h : Heap) (b : Nat) :
    ACalls Tryd.prog 88 [FlsV l, StrV p] h b 0 (fun r h' => r = FlsV (l.filter (fun f => !decide (f.name = p))) ∧ h' = h) := by
  refine ACalls.enter Tryd.func88 rfl (by simp [Tryd.ntmps88]) (fun ι w hn H => ?_)
  have hlow := H.lowCells
  have hlm : (l.map encF).length = l.length := List.length_map _
  refine Rk ?_
  refine Rk ?_
  refine AWP.virt 5 (by exact Er) ?_
  refine Ev ?_
  refine AWP.seq ?_
  refine Rkf @hlm ?_
  refine AWP.block ?_
  refine AWP.loopM 1 (fun m st => ∃ i, i ≤ l.length ∧ m = l.length - i ∧ rWoI l p h b i st) l.length rfl ⟨0, Nat.zero_le _, rfl, 0, 0, ⟨[], by exact Er, rfl, rfl⟩, Ou, by exact Er, by exact Er, by exact Er, by exact Er, by exact Er⟩ ?_
  rintro m ⟨t, hh, n⟩ ⟨i, hi, rfl, ver, cap, hr, ho, e1, e5, e8, e9, e10⟩ hn1
  simp only at hr ho e1 e5 e8 e9 e10 hn1
  subst hn1
  refine Rkf (jn2 @e9 @e10) ?_
  refine AWP.seq ?_
  by_cases hlt : (i : Int) < l.length
  · have hw1 : IntKind.i64.wrap ((i : Int) + 1) = ((i + 1 : Nat) : Int) := by rw [wrap_i64 (by omega) (by omega)]; rfl
    have hi2 : i < l.length := by omega
    have hge := encF_getD l i hi2
    have htk : (l.take (i + 1)).filter (fun f => !decide (f.name = p)) = (l.take i).filter (fun f => !decide (f.name = p)) ++ (if l[i].name = p then [] else [l[i]]) := by
      rw [List.take_add_one, List.filter_append, List.getElem?_eq_getElem hi2]
      by_cases hq : l[i].name = p <;> simp [hq]
    have hfl : ((l.take i).filter (fun f => !decide (f.name = p))).length ≤ 100000 := Nat.le_trans (List.length_filter_le _ _) (by rw [List.length_take]; omega)
    obtain ⟨f, hf⟩ : ∃ f, l[i] = f := ⟨_, rfl⟩
    rw [hf] at hge htk
    generalize (l.take i).filter (fun f => !decide (f.name = p)) = m at hr e5 htk hfl
    refine Btf @hlt ?_
    refine AWP.skip ?_
    refine Ev ?_
    refine AWP.seq ?_
    refine AWP.block ?_
    refine Rgf (jn5 @e8 @e10 @hlm @hlt @hge) (fun E K hE hK => ?_)
    refine ⟨by omega, ?_⟩
    refine hK _ _ _ ?_; clear hE hK K E
    by_cases hp : f.name = p
    · have hd : (f.name = p) = True := eq_true hp
      refine Rkf (jn3 @e1 @mkS_list @hd) ?_
      refine Bf ?_
      refine AWP.skip ?_
      refine Ev ?_
      rw [if_pos hp, List.append_nil] at htk
      refine Raf (jn2 @e10 @hw1) (fun E K hE hK => ?_); refine hK _ _ _ ?_; clear hE hK K E
      refine ⟨(by decide : 1 ≤ 2), l.length - (i + 1), by omega, i + 1, by omega, rfl, ver, cap, by rw [htk]; exact (hr.ne (by omega)).cut (Nat.lt_succ_self _), cutH_outer (Nat.le_succ _) (Ouf @ho) hlow, by exact Ecf @e1, by rw [htk]; refine Evf @e5 ?_; exact cutV_win (Nat.lt_succ_self _), by exact Ecf @e8, by exact Ecf @e9, by exact Er⟩
    · have hd : (f.name = p) = False := eq_false hp
      refine Rkf (jn3 @e1 @mkS_list @hd) ?_
      refine Bt ?_
      rw [if_neg hp] at htk
      have hr0 := hr
      obtain ⟨T0, hrb, _, _⟩ := hr0
      refine AWP.reg (by kernel_rfl) (fun E K hE hK => ?_); simp -implicitDefEqProofs only [go_sem, ↓reduceIte, Nat.reduceEqDiff, Nat.reduceAdd, Nat.reduceLT, Nat.reduceLeDiff, reduceCtorEq, Int.toNat_natCast, e5, hrb, rowB]
      refine BiR.of ?_
      refine append_fl (f := f) ((hr.ne (by omega)).ne (by omega)) (by exact Er) hfl (fun cap' T' q1 q2 => ?_)
      refine Ev ?_
      refine hK _ _ _ ?_; clear hE hK K E
      refine Ev ?_
      refine Raf (jn2 @e10 @hw1) (fun E K hE hK => ?_); refine hK _ _ _ ?_; clear hE hK K E
      have hml : (m ++ [f]).length = m.length + 1 := by simp
      refine ⟨(by decide : 1 ≤ 3), l.length - (i + 1), by omega, i + 1, by omega, rfl, ver + 1, cap', by rw [htk]; exact FlRow.cut ⟨T', by exact Er, by rw [hml]; exact q1, q2⟩ (Nat.lt_succ_self _), cutH_outer (Nat.le_succ _) (Ouf @ho) hlow, by exact Ecf @e1, by rw [htk, hml]; refine Ev ?_; exact cutV_win (Nat.lt_succ_self _), by exact Ecf @e8, by exact Ecf @e9, by exact Er⟩
  · refine Bff @hlt ?_
    refine AWP.exit ?_
    refine Ev ?_
    have hil : i = l.length := by omega
    subst hil
    rw [List.take_length] at hr e5
    obtain ⟨T, hb, h3, h4⟩ := hr
    refine AWP.seqReg (by kernel_rfl) (fun E K hE hK => ?_); simp -implicitDefEqProofs only [go_sem, ↓reduceIte, Nat.reduceEqDiff, Nat.reduceAdd, Nat.reduceLT, Nat.reduceLeDiff, reduceCtorEq, Int.toNat_natCast, e5, hb, rowB]
    try refine ⟨rfl, ?_⟩
    refine hK _ _ _ ?_; clear hE hK K E
    refine AWP.frz 4 (cap := cap) (len := (l.filter (fun f => !decide (f.name = p))).length) (off := 0) (id := b) 6 ((l.filter (fun f => !decide (f.name = p))).map encF) (by exact Er) hb rfl (by rw [List.length_map]) (okEs_fl _).len (row_cells (okEs_fl _) ver _) ?_
    refine AWP.ret ?_
    refine Ev ?_
    exact Ends.pure hn H (fun id (hid : id < b) => by simp -implicitDefEqProofs only [go_sem, ↓reduceIte, Nat.reduceEqDiff, Nat.reduceAdd, Nat.reduceLT, Nat.reduceLeDiff, reduceCtorEq, Int.toNat_natCast, delH, show ¬ id = b by omega]; exact ho id hid) (r0 := FlsV (l.filter (fun f => !decide (f.name = p)))) (by rw [show Tryd.f88.results.toList = [.tmp 4] from rfl]; exact Er) (frzV.p _) ⟨rfl, rfl⟩

end Go.Proofs.YtengjcdilnikhaaDoor

namespace Go.Proofs.YtengjcdilnikhaaDoor
set_option linter.unusedSimpArgs false
set_option linter.unusedVariables false
set_option linter.unnecessarySimpa false
open Go Am
set_option maxRecDepth 100000

def wiI (f : Fl) (m : List Fl) (l : List Fl) (h : Heap) (b : Nat) (st : St) : Prop :=
  ∃ ver cap, FlRow st.h (b + 1) ver cap m ∧ st.h b = some ⟨0, (encF f).map .p⟩ ∧ (∀ id, id < b → st.h id = h id) ∧ st.t 0 = FlsV l ∧ st.t 3 = .one (.ptr b 0 0) ∧ st.t 5 = .one (.win (b + 1) ver 0 m.length cap)

abbrev lessF (f : Fl) (x : Fl) : Bool := decide (cK x.name f.name < 0)
abbrev moreF (f : Fl) (x : Fl) : Bool := decide (cK f.name x.name < 0)
theorem flow_low (f : Fl) (k : Nat) : lowCs k ((encF f).map Cell.p) = true := lowCs_p _ _

theorem rWith_ok (l : List Fl) (f : Fl) (hl : l.length ≤ 40000) (hs : ∀ x ∈ l, x.name.length ≤ 1000) (hf1 : f.name.length ≤ 1000) (h : Heap) (b : Nat) :
    ACalls Tryd.prog 87 [FlsV l, FlV f] h b 0 (fun r h' => r = FlsV (l.filter (lessF f) ++ (f :: l.filter (moreF f))) ∧ h' = h) := by
  refine ACalls.enter Tryd.func87 rfl (by simp [Tryd.ntmps87]) (fun ι w hn H => ?_)
  have hlow := H.lowCells
  have hlm : (l.map encF).length = l.length := List.length_map _
  have hfs : (mkS f.name).size ≤ 1000 := by rw [mkS_size]; exact hf1
  refine Rk ?_
  refine Rk ?_
  refine AWP.virt 5 (by exact Er) ?_
  refine Ev ?_
  refine AWP.mid (fun s' => s'.n = 2 ∧ wiI f (l.filter (lessF f)) l h b s') ?_ ?_
  · refine Rkf @hlm ?_
    refine AWP.block ?_
    refine AWP.loopM 2 (fun m st => ∃ i, i ≤ l.length ∧ m = l.length - i ∧ wiI f ((l.take i).filter (lessF f)) l h b st ∧ st.t 10 = FlsV l ∧ st.t 11 = IntV l.length ∧ st.t 12 = IntV (i : Nat)) l.length rfl ⟨0, Nat.zero_le _, rfl, ⟨0, 0, ⟨[], by exact Er, rfl, rfl⟩, by exact Er, Ou, by exact Er, by exact Er, by exact Er⟩, by exact Er, by exact Er, by exact Er⟩ ?_
    rintro m ⟨t, hh, n⟩ ⟨i, hi, rfl, ⟨ver, cap, hr, hb, ho, e0, e3, e5⟩, e10, e11, e12⟩ hn1
    simp only at hr hb ho e0 e3 e5 e10 e11 e12 hn1
    subst hn1
    refine Rkf (jn2 @e11 @e12) ?_
    refine AWP.seq ?_
    by_cases hlt : (i : Int) < l.length
    · have hw1 : IntKind.i64.wrap ((i : Int) + 1) = ((i + 1 : Nat) : Int) := by rw [wrap_i64 (by omega) (by omega)]; rfl
      have hi2 : i < l.length := by omega
      have hge := encF_getD l i hi2
      have htk : (l.take (i + 1)).filter (lessF f) = (l.take i).filter (lessF f) ++ (if lessF f l[i] = true then [l[i]] else []) := by
        rw [List.take_add_one, List.filter_append, List.getElem?_eq_getElem hi2]
        cases hq : lessF f l[i] <;> simp [hq]
      have hfl : ((l.take i).filter (lessF f)).length ≤ 100000 := Nat.le_trans (List.length_filter_le _ _) (by rw [List.length_take]; omega)
      obtain ⟨x, hx⟩ : ∃ x, l[i] = x := ⟨_, rfl⟩
      have hxs : (mkS x.name).size ≤ 1000 := by rw [mkS_size, ← hx]; exact hs _ (List.getElem_mem hi2)
      rw [hx] at hge htk
      generalize (l.take i).filter (lessF f) = m at hr e5 htk hfl
      refine Btf @hlt ?_
      refine AWP.skip ?_
      refine Ev ?_
      refine AWP.seq ?_
      refine AWP.block ?_
      refine Rgf (jn5 @e10 @e12 @hlm @hlt @hge) (fun E K hE hK => ?_)
      refine ⟨by omega, ?_⟩
      refine hK _ _ _ ?_; clear hE hK K E
      cases hls : lessF f x
      · have hls' : decide (cmpP (parts x.name) (parts f.name) < 0) = false := hls
        rw [hls, if_neg (by decide), List.append_nil] at htk
        refine AWP.seqReg (by kernel_rfl) (fun E K hE hK => ?_); simp -implicitDefEqProofs only [go_sem, ↓reduceIte, Nat.reduceEqDiff, Nat.reduceAdd, Nat.reduceLT, Nat.reduceLeDiff, reduceCtorEq, Int.toNat_natCast, e3, hb, encF]
        refine Us (rLess_ok (mkS x.name) (mkS f.name) hxs hfs _ _) body_90 ?_
        refine Evf (jn2 @mkS_list @hls') ?_
        refine hK _ _ _ ?_; clear hE hK K E
        refine Bf ?_
        refine AWP.skip ?_
        refine Ev ?_
        refine Raf (jn2 @e12 @hw1) (fun E K hE hK => ?_); refine hK _ _ _ ?_; clear hE hK K E
        refine ⟨(by decide : 2 ≤ 3), l.length - (i + 1), by omega, i + 1, by omega, rfl, ⟨ver, cap, by rw [htk]; exact (hr.ne (by omega)).cut (Nat.lt_succ_self _), cutH_same (Nat.lt_add_of_pos_right (by decide)) (by exact Erf @hb) (flow_low f _), cutH_outer (Nat.le_add_right _ _) (Ouf @ho) hlow, by exact Ecf @e0, by refine Evf @e3 ?_; exact cutV_ptr (Nat.lt_add_of_pos_right (by decide)), by rw [htk]; refine Evf @e5 ?_; exact cutV_win (Nat.lt_succ_self _)⟩, by exact Ecf @e10, by exact Ecf @e11, by exact Er⟩
      · have hls' : decide (cmpP (parts x.name) (parts f.name) < 0) = true := hls
        rw [hls, if_pos rfl] at htk
        have hr0 := hr
        obtain ⟨T0, hrb, _, _⟩ := hr0
        refine AWP.seqReg (by kernel_rfl) (fun E K hE hK => ?_); simp -implicitDefEqProofs only [go_sem, ↓reduceIte, Nat.reduceEqDiff, Nat.reduceAdd, Nat.reduceLT, Nat.reduceLeDiff, reduceCtorEq, Int.toNat_natCast, e3, hb, encF]
        refine Us (rLess_ok (mkS x.name) (mkS f.name) hxs hfs _ _) body_90 ?_
        refine Evf (jn2 @mkS_list @hls') ?_
        refine hK _ _ _ ?_; clear hE hK K E
        refine Bt ?_
        refine AWP.reg (by kernel_rfl) (fun E K hE hK => ?_); simp -implicitDefEqProofs only [go_sem, ↓reduceIte, Nat.reduceEqDiff, Nat.reduceAdd, Nat.reduceLT, Nat.reduceLeDiff, reduceCtorEq, Int.toNat_natCast, e5, hrb, rowB]
        refine BiR.of ?_
        refine append_fl (f := x) ((hr.ne (by omega)).ne (by omega)) (by exact Er) hfl (fun cap' T' q1 q2 => ?_)
        refine Ev ?_
        refine hK _ _ _ ?_; clear hE hK K E
        refine Ev ?_
        refine Raf (jn2 @e12 @hw1) (fun E K hE hK => ?_); refine hK _ _ _ ?_; clear hE hK K E
        have hml : (m ++ [x]).length = m.length + 1 := by simp
        refine ⟨(by decide : 2 ≤ 4), l.length - (i + 1), by omega, i + 1, by omega, rfl, ⟨ver + 1, cap', by rw [htk]; exact FlRow.cut ⟨T', by exact Er, by rw [hml]; exact q1, q2⟩ (Nat.lt_succ_self _), cutH_same (Nat.lt_add_of_pos_right (by decide)) (by exact Erf @hb) (flow_low f _), cutH_outer (Nat.le_add_right _ _) (Ouf @ho) hlow, by exact Ecf @e0, by refine Evf @e3 ?_; exact cutV_ptr (Nat.lt_add_of_pos_right (by decide)), by rw [htk, hml]; refine Ev ?_; exact cutV_win (Nat.lt_succ_self _)⟩, by exact Ecf @e10, by exact Ecf @e11, by exact Er⟩
    · refine Bff @hlt ?_
      refine AWP.exit ?_
      refine Ev ?_
      have hil : i = l.length := by omega
      subst hil
      rw [List.take_length] at hr e5
      exact ⟨ver, cap, hr, hb, ho, e0, e3, e5⟩
  rintro ⟨t, hh, n⟩ ⟨hn1, ver, cap, hr, hb, ho, e0, e3, e5⟩
  simp only at hr hb ho e0 e3 e5 hn1
  subst hn1
  have hfl0 : (l.filter (lessF f)).length ≤ 40000 := Nat.le_trans (List.length_filter_le _ _) hl
  obtain ⟨m0, hm0⟩ : ∃ m0, l.filter (lessF f) = m0 := ⟨_, rfl⟩
  rw [hm0] at hr e5 hfl0 ⊢
  have hr0 := hr
  obtain ⟨T0, hrb, _, _⟩ := hr0
  refine AWP.seqReg (by kernel_rfl) (fun E K hE hK => ?_); simp -implicitDefEqProofs only [go_sem, ↓reduceIte, Nat.reduceEqDiff, Nat.reduceAdd, Nat.reduceLT, Nat.reduceLeDiff, reduceCtorEq, Int.toNat_natCast, e3, e5, hb, hrb, rowB, encF]
  refine BiR.of ?_
  refine append_fl (f := f) (hr.ne (by omega)) (by exact Er) (by omega) (fun cap0 T1 q1 q2 => ?_)
  refine Ev ?_
  refine hK _ _ _ ?_; clear hE hK K E
  have hr1 : FlRow (upd (upd hh (b + 2) ⟨0, (encF f).map .p⟩) (b + 1) (rowB (ver + 1) ((m0 ++ [f]).map encF) T1)) (b + 1) (ver + 1) cap0 (m0 ++ [f]) := ⟨T1, upd_same _ _ _, by rw [List.length_append]; exact q1, q2⟩
  have hm1 : (m0 ++ [f]).length = m0.length + 1 := by simp
  refine AWP.seq ?_
  refine Rkf (jn2 @e0 @hlm) ?_
  refine AWP.block ?_
  refine AWP.loopM 3 (fun m st => ∃ i, i ≤ l.length ∧ m = l.length - i ∧ wiI f ((m0 ++ [f]) ++ (l.take i).filter (moreF f)) l h b st ∧ st.t 30 = FlsV l ∧ st.t 31 = IntV l.length ∧ st.t 32 = IntV (i : Nat)) l.length rfl ⟨0, Nat.zero_le _, rfl, ⟨ver + 1, cap0, by rw [List.take_zero, List.filter_nil, List.append_nil]; exact hr1, by exact Erf @hb, (Ouf @ho), by exact Erf @e0, by exact Erf @e3, by rw [List.take_zero, List.filter_nil, List.append_nil, hm1]; exact Er⟩, by exact Er, by exact Er, by exact Er⟩ ?_
  clear hr hb ho e0 e3 e5 hr1 hrb q1
  rintro m ⟨t, hh, n⟩ ⟨i, hi, rfl, ⟨ver, cap, hr, hb, ho, e0, e3, e5⟩, e10, e11, e12⟩ hn1
  simp only at hr hb ho e0 e3 e5 e10 e11 e12 hn1
  subst hn1
  refine Rkf (jn2 @e11 @e12) ?_
  refine AWP.seq ?_
  by_cases hlt : (i : Int) < l.length
  · have hw1 : IntKind.i64.wrap ((i : Int) + 1) = ((i + 1 : Nat) : Int) := by rw [wrap_i64 (by omega) (by omega)]; rfl
    have hi2 : i < l.length := by omega
    have hge := encF_getD l i hi2
    have htk : (m0 ++ [f]) ++ (l.take (i + 1)).filter (moreF f) = ((m0 ++ [f]) ++ (l.take i).filter (moreF f)) ++ (if moreF f l[i] = true then [l[i]] else []) := by
      rw [List.take_add_one, List.filter_append, List.getElem?_eq_getElem hi2]
      cases hq : moreF f l[i] <;> simp [hq]
    have hfl : ((m0 ++ [f]) ++ (l.take i).filter (moreF f)).length ≤ 100000 := by
      have : ((l.take i).filter (moreF f)).length ≤ l.length := Nat.le_trans (List.length_filter_le _ _) (by rw [List.length_take]; omega)
      rw [List.length_append, hm1]; omega
    obtain ⟨x, hx⟩ : ∃ x, l[i] = x := ⟨_, rfl⟩
    have hxs : (mkS x.name).size ≤ 1000 := by rw [mkS_size, ← hx]; exact hs _ (List.getElem_mem hi2)
    rw [hx] at hge htk
    generalize (m0 ++ [f]) ++ (l.take i).filter (moreF f) = m at hr e5 htk hfl
    refine Btf @hlt ?_
    refine AWP.skip ?_
    refine Ev ?_
    refine AWP.seq ?_
    refine AWP.block ?_
    refine Rgf (jn5 @e10 @e12 @hlm @hlt @hge) (fun E K hE hK => ?_)
    refine ⟨by omega, ?_⟩
    refine hK _ _ _ ?_; clear hE hK K E
    cases hls : moreF f x
    · have hls' : decide (cmpP (parts f.name) (parts x.name) < 0) = false := hls
      rw [hls, if_neg (by decide), List.append_nil] at htk
      refine AWP.seqReg (by kernel_rfl) (fun E K hE hK => ?_); simp -implicitDefEqProofs only [go_sem, ↓reduceIte, Nat.reduceEqDiff, Nat.reduceAdd, Nat.reduceLT, Nat.reduceLeDiff, reduceCtorEq, Int.toNat_natCast, e3, hb, encF]
      refine Us (rLess_ok (mkS f.name) (mkS x.name) hfs hxs _ _) body_90 ?_
      refine Evf (jn2 @mkS_list @hls') ?_
      refine hK _ _ _ ?_; clear hE hK K E
      refine Bf ?_
      refine AWP.skip ?_
      refine Ev ?_
      refine Raf (jn2 @e12 @hw1) (fun E K hE hK => ?_); refine hK _ _ _ ?_; clear hE hK K E
      refine ⟨(by decide : 3 ≤ 4), l.length - (i + 1), by omega, i + 1, by omega, rfl, ⟨ver, cap, by rw [htk]; exact (hr.ne (by omega)).cut (Nat.add_lt_add_left (by decide) b), cutH_same (Nat.lt_add_of_pos_right (by decide)) (by exact Erf @hb) (flow_low f _), cutH_outer (Nat.le_add_right _ _) (Ouf @ho) hlow, by exact Ecf @e0, by refine Evf @e3 ?_; exact cutV_ptr (Nat.lt_add_of_pos_right (by decide)), by rw [htk]; refine Evf @e5 ?_; exact cutV_win (Nat.add_lt_add_left (by decide) b)⟩, by exact Ecf @e10, by exact Ecf @e11, by exact Er⟩
    · have hls' : decide (cmpP (parts f.name) (parts x.name) < 0) = true := hls
      rw [hls, if_pos rfl] at htk
      have hr0 := hr
      obtain ⟨T0, hrb, _, _⟩ := hr0
      refine AWP.seqReg (by kernel_rfl) (fun E K hE hK => ?_); simp -implicitDefEqProofs only [go_sem, ↓reduceIte, Nat.reduceEqDiff, Nat.reduceAdd, Nat.reduceLT, Nat.reduceLeDiff, reduceCtorEq, Int.toNat_natCast, e3, hb, encF]
      refine Us (rLess_ok (mkS f.name) (mkS x.name) hfs hxs _ _) body_90 ?_
      refine Evf (jn2 @mkS_list @hls') ?_
      refine hK _ _ _ ?_; clear hE hK K E
      refine Bt ?_
      refine AWP.reg (by kernel_rfl) (fun E K hE hK => ?_); simp -implicitDefEqProofs only [go_sem, ↓reduceIte, Nat.reduceEqDiff, Nat.reduceAdd, Nat.reduceLT, Nat.reduceLeDiff, reduceCtorEq, Int.toNat_natCast, e5, hrb, rowB]
      refine BiR.of ?_
      refine append_fl (f := x) ((hr.ne (by omega)).ne (by omega)) (by exact Er) hfl (fun cap' T' q1 q2 => ?_)
      refine Ev ?_
      refine hK _ _ _ ?_; clear hE hK K E
      refine Ev ?_
      refine Raf (jn2 @e12 @hw1) (fun E K hE hK => ?_); refine hK _ _ _ ?_; clear hE hK K E
      have hml : (m ++ [x]).length = m.length + 1 := by simp
      refine ⟨(by decide : 3 ≤ 5), l.length - (i + 1), by omega, i + 1, by omega, rfl, ⟨ver + 1, cap', by rw [htk]; exact FlRow.cut ⟨T', by exact Er, by rw [hml]; exact q1, q2⟩ (Nat.add_lt_add_left (by decide) b), cutH_same (Nat.lt_add_of_pos_right (by decide)) (by exact Erf @hb) (flow_low f _), cutH_outer (Nat.le_add_right _ _) (Ouf @ho) hlow, by exact Ecf @e0, by refine Evf @e3 ?_; exact cutV_ptr (Nat.lt_add_of_pos_right (by decide)), by rw [htk, hml]; refine Ev ?_; exact cutV_win (Nat.add_lt_add_left (by decide) b)⟩, by exact Ecf @e10, by exact Ecf @e11, by exact Er⟩
  · refine Bff @hlt ?_
    refine AWP.exit ?_
    refine Ev ?_
    have hil : i = l.length := by omega
    subst hil
    rw [List.take_length] at hr e5
    have hE : m0 ++ (f :: l.filter (moreF f)) = (m0 ++ [f]) ++ l.filter (moreF f) := by simp
    rw [hE]
    generalize (m0 ++ [f]) ++ l.filter (moreF f) = mm at hr e5 ⊢
    obtain ⟨T, hrb, h3, h4⟩ := hr
    refine AWP.seqReg (by kernel_rfl) (fun E K hE hK => ?_); simp -implicitDefEqProofs only [go_sem, ↓reduceIte, Nat.reduceEqDiff, Nat.reduceAdd, Nat.reduceLT, Nat.reduceLeDiff, reduceCtorEq, Int.toNat_natCast, e5, hrb, rowB]; refine hK _ _ _ ?_; clear hE hK K E
    refine AWP.frz 4 (cap := cap) (len := mm.length) (off := 0) (id := b + 1) 6 (mm.map encF) (by exact Er) hrb rfl (by rw [List.length_map]) (okEs_fl _).len (row_cells (okEs_fl _) ver _) ?_
    refine AWP.ret ?_
    refine Ev ?_
    exact Ends.pure hn H (fun id (hid : id < b) => by simp -implicitDefEqProofs only [go_sem, ↓reduceIte, Nat.reduceEqDiff, Nat.reduceAdd, Nat.reduceLT, Nat.reduceLeDiff, reduceCtorEq, Int.toNat_natCast, delH, show ¬ id = b + 1 by omega]; exact ho id hid) (r0 := FlsV mm) (by rw [show Tryd.f87.results.toList = [.tmp 4] from rfl]; exact Er) (frzV.p _) ⟨rfl, rfl⟩

end Go.Proofs.YtengjcdilnikhaaDoor

namespace Go.Proofs.YtengjcdilnikhaaDoor
set_option linter.unusedSimpArgs false
set_option linter.unusedVariables false
set_option linter.unnecessarySimpa false
open Go Am
set_option maxRecDepth 100000

theorem rPutT_ok (l : List Fl) (f : Fl) (hl : l.length ≤ 1000) (hs : ∀ x ∈ l, x.name.length ≤ 1000) (hf1 : f.name.length ≤ 1000) (h : Heap) (b : Nat) :
    ACalls Tryd.prog 46 [FlsV l, FlV f] h b 0 (fun r h' => r = .tup [FlsV (putR l f).1, IntV (putR l f).2] ∧ h' = h) := by
  refine ACalls.enter Tryd.func46 rfl (by simp [Tryd.ntmps46]) (fun ι w hn H => ?_)
  have hlm : (l.map encF).length = l.length := List.length_map _
  have fin : ∀ (t : Nat → AV) (hh : Heap) (n : Nat) (e : Int), t 4 = .one (.p (.v (.slice none 0 0))) → t 5 = IntV e → (∀ id, id < b → hh id = h id) → ([], e) = putR l f → Am.Ends Tryd.prog ⟨Tryd.f46.ntmps, b, ι, h, w, x0⟩ Tryd.f46 0 (fun r h' => r = .tup [FlsV (putR l f).1, IntV (putR l f).2] ∧ h' = h) ⟨t, hh, n⟩ := by
    intro t hh n e ht ht2 ho hv
    exact Ends.pure hn H ho (r0 := .tup [.one (.p (.v (.slice none 0 0))), IntV e]) (by rw [show Tryd.f46.results.toList = [.tmp 4, .tmp 5] from rfl]; exact Ecf (jn2 @ht @ht2)) (frz_tup2 (.one (frz_nil 6)) (.v _)) ⟨by rw [← hv]; rfl, rfl⟩
  have fin2 : ∀ (t : Nat → AV) (hh : Heap) (n : Nat) (m : List Fl), t 4 = FlsV m → t 5 = IntV 0 → (∀ id, id < b → hh id = h id) → (m, 0) = putR l f → Am.Ends Tryd.prog ⟨Tryd.f46.ntmps, b, ι, h, w, x0⟩ Tryd.f46 0 (fun r h' => r = .tup [FlsV (putR l f).1, IntV (putR l f).2] ∧ h' = h) ⟨t, hh, n⟩ := by
    intro t hh n m ht ht2 ho hv
    exact Ends.pure hn H ho (r0 := .tup [FlsV m, IntV 0]) (by rw [show Tryd.f46.results.toList = [.tmp 4, .tmp 5] from rfl]; exact Ecf (jn2 @ht @ht2)) (frz_tup2 (frzV.p _) (.v _)) ⟨by rw [← hv], rfl⟩
  refine Rk ?_
  refine AWP.seq ?_
  by_cases c1 : checkT l = 0
  case neg =>
    refine Rg (fun E K hE hK => ?_)
    refine Us (rCheckT_ok l (by omega) hs _ _) body_51 ?_
    refine Evf @c1 ?_
    refine hK _ _ _ ?_; clear hE hK K E
    refine Bt ?_
    refine Rk ?_
    refine AWP.ret ?_
    refine Ev ?_
    exact fin _ _ _ 1 (by exact Er) (by exact Er) Ou (by unfold putR; rw [if_pos (.inl c1)])
  cases c2 : mayF f
  · refine Rg (fun E K hE hK => ?_)
    refine Us (rCheckT_ok l (by omega) hs _ _) body_51 ?_
    refine Evf @c1 ?_
    refine Us (rMayF_ok f hf1 _ _) body_85 ?_
    refine Evf @c2 ?_
    refine hK _ _ _ ?_; clear hE hK K E
    refine Bt ?_
    refine Rk ?_
    refine AWP.ret ?_
    refine Ev ?_
    exact fin _ _ _ 1 (by exact Er) (by exact Er) Ou (by unfold putR; rw [if_pos (.inr (.inr (by simp [c2])))])
  have hok : ¬ (checkT l ≠ 0 ∨ chkN f.name ≠ 0 ∨ mayF f ≠ true) := by simp [c1, mayF_chk c2, c2]
  have htab := (checkT_zero.1 c1).2
  have hwe := with_eq (f := f) htab
  have hfe := find_eq (p := f.name) 0 htab
  refine Rg (fun E K hE hK => ?_)
  refine Us (rCheckT_ok l (by omega) hs _ _) body_51 ?_
  refine Evf @c1 ?_
  refine Us (rMayF_ok f hf1 _ _) body_85 ?_
  refine Evf @c2 ?_
  refine hK _ _ _ ?_; clear hE hK K E
  refine Bs ?_
  refine AWP.seq ?_
  by_cases c3 : (l.length : Int) = 256
  · cases hhas : hasL f.name l
    · rw [hhas, if_neg (by decide)] at hfe
      refine Rgf (jn2 @hlm @c3) (fun E K hE hK => ?_)
      refine Us (rFind_ok l f.name (by omega) _ _) body_86 ?_
      refine Evf (jn2 @hfe (show (-1 : Int) < 0 by decide)) ?_
      refine hK _ _ _ ?_; clear hE hK K E
      refine Bt ?_
      refine Rk ?_
      refine AWP.ret ?_
      refine Ev ?_
      exact fin _ _ _ 6 (by exact Er) (by exact Er) Ou (by unfold putR; rw [if_neg hok, if_neg (by simp [hhas]), if_pos (by omega)])
    · rw [hhas, if_pos rfl, Nat.zero_add] at hfe
      refine Rgf (jn2 @hlm @c3) (fun E K hE hK => ?_)
      refine Us (rFind_ok l f.name (by omega) _ _) body_86 ?_
      refine Evf (jn2 @hfe (show ¬ ((kL f.name l : Nat) : Int) < 0 by omega)) ?_
      refine hK _ _ _ ?_; clear hE hK K E
      refine Bs ?_
      refine Rg (fun E K hE hK => ?_)
      refine Us (rWith_ok l f (by omega) hs hf1 _ _) body_87 ?_
      refine hK _ _ _ ?_; clear hE hK K E
      refine AWP.ret ?_
      exact fin2 _ _ _ (putL f l) (by rw [← hwe]; exact Er) (by exact Er) Ou (by unfold putR; rw [if_neg hok, if_pos hhas])
  · refine Rkf (jn2 @hlm @c3) ?_
    refine Bs ?_
    refine Rg (fun E K hE hK => ?_)
    refine Us (rWith_ok l f (by omega) hs hf1 _ _) body_87 ?_
    refine hK _ _ _ ?_; clear hE hK K E
    refine AWP.ret ?_
    exact fin2 _ _ _ (putL f l) (by rw [← hwe]; exact Er) (by exact Er) Ou (by unfold putR; rw [if_neg hok, if_neg (c := l.length = 256) (by omega)]; split <;> rfl)

theorem rDelT_ok (l : List Fl) (p : S) (hl : l.length ≤ 1000) (hs : ∀ x ∈ l, x.name.length ≤ 1000) (hp : p.length ≤ 1000) (h : Heap) (b : Nat) :
    ACalls Tryd.prog 47 [FlsV l, StrV p] h b 0 (fun r h' => r = .tup [FlsV (delR l p).1, IntV (delR l p).2] ∧ h' = h) := by
  refine ACalls.enter Tryd.func47 rfl (by simp [Tryd.ntmps47]) (fun ι w hn H => ?_)
  have fin : ∀ (t : Nat → AV) (hh : Heap) (n : Nat) (e : Int), t 4 = .one (.p (.v (.slice none 0 0))) → t 5 = IntV e → (∀ id, id < b → hh id = h id) → ([], e) = delR l p → Am.Ends Tryd.prog ⟨Tryd.f47.ntmps, b, ι, h, w, x0⟩ Tryd.f47 0 (fun r h' => r = .tup [FlsV (delR l p).1, IntV (delR l p).2] ∧ h' = h) ⟨t, hh, n⟩ := by
    intro t hh n e ht ht2 ho hv
    exact Ends.pure hn H ho (r0 := .tup [.one (.p (.v (.slice none 0 0))), IntV e]) (by rw [show Tryd.f47.results.toList = [.tmp 4, .tmp 5] from rfl]; exact Ecf (jn2 @ht @ht2)) (frz_tup2 (.one (frz_nil 6)) (.v _)) ⟨by rw [← hv]; rfl, rfl⟩
  obtain ⟨g, e, hg⟩ : ∃ g e, getR l p = (g, e) := ⟨_, _, rfl⟩
  have hge : e = (delR l p).2 ∧ (e ≠ 0 → (delR l p).1 = []) ∧ (e = 0 → checkT l = 0 ∧ delR l p = (delL p l, 0)) := by
    unfold getR at hg
    unfold delR
    split at hg
    · rename_i h1; rw [if_pos h1]; obtain ⟨_, rfl⟩ := Prod.mk.inj hg; exact ⟨rfl, fun _ => rfl, fun e => absurd e (by decide)⟩
    · rename_i h1
      rw [if_neg h1]
      split at hg
      · rename_i h2
        rw [if_pos h2]; obtain ⟨_, rfl⟩ := Prod.mk.inj hg
        exact ⟨rfl, fun e => absurd rfl e, fun _ => ⟨by
          by_cases q : checkT l = 0
          · exact q
          · exact absurd (.inl q) h1, rfl⟩⟩
      · rename_i h2; rw [if_neg h2]; obtain ⟨_, rfl⟩ := Prod.mk.inj hg; exact ⟨rfl, fun _ => rfl, fun e => absurd e (by decide)⟩
  obtain ⟨g1, g2, g3⟩ := hge
  refine Rk ?_
  refine Rg (fun E K hE hK => ?_)
  refine Us (rGetT_ok l p (by omega) hs hp _ _) body_49 ?_
  refine Evf @hg ?_
  refine hK _ _ _ ?_; clear hE hK K E
  refine AWP.seq ?_
  by_cases c1 : e = 0
  case neg =>
    refine Rkf @c1 ?_
    refine Bt ?_
    refine Rk ?_
    refine AWP.ret ?_
    refine Ev ?_
    exact fin _ _ _ e (by exact Er) (by exact Er) Ou (by rw [← g2 c1, g1])
  obtain ⟨hck, hdr⟩ := g3 c1
  subst c1
  have hwo := without_eq (p := p) (checkT_zero.1 hck).2
  refine Rk ?_
  refine Bs ?_
  refine Rg (fun E K hE hK => ?_)
  refine Us (rWithout_ok l p (by omega) _ _) body_88 ?_
  refine hK _ _ _ ?_; clear hE hK K E
  refine AWP.ret ?_
  exact Ends.pure hn H Ou (r0 := .tup [FlsV (delL p l), IntV 0]) (by rw [show Tryd.f47.results.toList = [.tmp 4, .tmp 5] from rfl, ← hwo]; exact Er) (frz_tup2 (frzV.p _) (.v _)) ⟨by rw [hdr], rfl⟩

end Go.Proofs.YtengjcdilnikhaaDoor

namespace Go.Proofs.YtengjcdilnikhaaDoor
set_option linter.unusedSimpArgs false
set_option linter.unusedVariables false
set_option linter.unnecessarySimpa false
open Go Am
set_option maxRecDepth 100000

theorem rMoveT_ok (l : List Fl) (p q : S) (hl : l.length ≤ 1000) (hs : ∀ x ∈ l, x.name.length ≤ 1000) (hp : p.length ≤ 1000) (hq : q.length ≤ 1000) (h : Heap) (b : Nat) :
    ACalls Tryd.prog 48 [FlsV l, StrV p, StrV q] h b 0 (fun r h' => r = .tup [FlsV (movR l p q).1, IntV (movR l p q).2] ∧ h' = h) := by
  refine ACalls.enter Tryd.func48 rfl (by simp [Tryd.ntmps48]) (fun ι w hn H => ?_)
  have hlm : (l.map encF).length = l.length := List.length_map _
  have hps : (mkS p).size ≤ 1000 := by rw [mkS_size]; exact hp
  have hqs : (mkS q).size ≤ 1000 := by rw [mkS_size]; exact hq
  have fin : ∀ (t : Nat → AV) (hh : Heap) (n : Nat) (e : Int), t 6 = .one (.p (.v (.slice none 0 0))) → t 7 = IntV e → (∀ id, id < b → hh id = h id) → ([], e) = movR l p q → Am.Ends Tryd.prog ⟨Tryd.f48.ntmps, b, ι, h, w, x0⟩ Tryd.f48 0 (fun r h' => r = .tup [FlsV (movR l p q).1, IntV (movR l p q).2] ∧ h' = h) ⟨t, hh, n⟩ := by
    intro t hh n e ht ht2 ho hv
    exact Ends.pure hn H ho (r0 := .tup [.one (.p (.v (.slice none 0 0))), IntV e]) (by rw [show Tryd.f48.results.toList = [.tmp 6, .tmp 7] from rfl]; exact Ecf (jn2 @ht @ht2)) (frz_tup2 (.one (frz_nil 6)) (.v _)) ⟨by rw [← hv]; rfl, rfl⟩
  have fin2 : ∀ (t : Nat → AV) (hh : Heap) (n : Nat) (m : List Fl), t 6 = FlsV m → t 7 = IntV 0 → (∀ id, id < b → hh id = h id) → (m, 0) = movR l p q → Am.Ends Tryd.prog ⟨Tryd.f48.ntmps, b, ι, h, w, x0⟩ Tryd.f48 0 (fun r h' => r = .tup [FlsV (movR l p q).1, IntV (movR l p q).2] ∧ h' = h) ⟨t, hh, n⟩ := by
    intro t hh n m ht ht2 ho hv
    exact Ends.pure hn H ho (r0 := .tup [FlsV m, IntV 0]) (by rw [show Tryd.f48.results.toList = [.tmp 6, .tmp 7] from rfl]; exact Ecf (jn2 @ht @ht2)) (frz_tup2 (frzV.p _) (.v _)) ⟨by rw [← hv], rfl⟩
  refine Rk ?_
  refine AWP.seq ?_
  by_cases c1 : checkT l = 0
  case neg =>
    refine Rg (fun E K hE hK => ?_)
    refine Us (rCheckT_ok l (by omega) hs _ _) body_51 ?_
    refine Evf @c1 ?_
    refine hK _ _ _ ?_; clear hE hK K E
    refine Bt ?_
    refine Rk ?_
    refine AWP.ret ?_
    refine Ev ?_
    exact fin _ _ _ 1 (by exact Er) (by exact Er) Ou (by unfold movR; rw [if_pos (.inl c1)])
  by_cases c2 : chkN p = 0
  case neg =>
    refine Rg (fun E K hE hK => ?_)
    refine Us (rCheckT_ok l (by omega) hs _ _) body_51 ?_
    refine Evf @c1 ?_
    refine Us (rCheck_ok (mkS p) hps _ _) body_89 ?_
    refine Evf (jn2 @mkS_list @c2) ?_
    refine hK _ _ _ ?_; clear hE hK K E
    refine Bt ?_
    refine Rk ?_
    refine AWP.ret ?_
    refine Ev ?_
    exact fin _ _ _ 1 (by exact Er) (by exact Er) Ou (by unfold movR; rw [if_pos (.inr (.inl c2))])
  by_cases c3 : chkN q = 0
  case neg =>
    refine Rg (fun E K hE hK => ?_)
    refine Us (rCheckT_ok l (by omega) hs _ _) body_51 ?_
    refine Evf @c1 ?_
    refine Us (rCheck_ok (mkS p) hps _ _) body_89 ?_
    refine Evf (jn2 @mkS_list @c2) ?_
    refine Us (rCheck_ok (mkS q) hqs _ _) body_89 ?_
    refine Evf (jn2 @mkS_list @c3) ?_
    refine hK _ _ _ ?_; clear hE hK K E
    refine Bt ?_
    refine Rk ?_
    refine AWP.ret ?_
    refine Ev ?_
    exact fin _ _ _ 1 (by exact Er) (by exact Er) Ou (by unfold movR; rw [if_pos (.inr (.inr c3))])
  refine Rg (fun E K hE hK => ?_)
  refine Us (rCheckT_ok l (by omega) hs _ _) body_51 ?_
  refine Evf @c1 ?_
  refine Us (rCheck_ok (mkS p) hps _ _) body_89 ?_
  refine Evf (jn2 @mkS_list @c2) ?_
  refine Us (rCheck_ok (mkS q) hqs _ _) body_89 ?_
  refine Evf (jn2 @mkS_list @c3) ?_
  refine hK _ _ _ ?_; clear hE hK K E
  refine Bs ?_
  have hok : ¬ (checkT l ≠ 0 ∨ chkN p ≠ 0 ∨ chkN q ≠ 0) := by simp [c1, c2, c3]
  have htab := (checkT_zero.1 c1).2
  have hfe := find_eq (p := p) 0 htab
  have hfe2 := find_eq (p := q) 0 htab
  have hwo := without_eq (p := p) htab
  cases hhas : hasL p l
  · rw [hhas, if_neg (by decide)] at hfe
    refine Rg (fun E K hE hK => ?_)
    refine Us (rFind_ok l p (by omega) _ _) body_86 ?_
    refine Evf @hfe ?_
    refine hK _ _ _ ?_; clear hE hK K E
    refine AWP.seq ?_
    refine Rkf (show (-1 : Int) < 0 by decide) ?_
    refine Bt ?_
    refine Rk ?_
    refine AWP.ret ?_
    refine Ev ?_
    exact fin _ _ _ 4 (by exact Er) (by exact Er) Ou (by unfold movR; rw [if_neg hok, if_pos (by simp [hhas])])
  rw [hhas, if_pos rfl, Nat.zero_add] at hfe
  obtain ⟨hk, hk2⟩ := hasL_k.1 hhas
  have hkn : ((kL p l : Nat) : Int) < l.length := by omega
  have hge := encF_getD l (kL p l) hk
  have hgd : l.getD (kL p l) ⟨[], 0, 0, 0, 0, 0⟩ = l[kL p l] := by simp [List.getD, hk]
  have hmp := mov_put (q := q) c1 c3 hhas
  rw [hgd] at hmp
  have hdl := delL_len p l
  have hds : ∀ x ∈ delL p l, x.name.length ≤ 1000 := fun x hx => by rw [← hwo] at hx; exact hs x (List.mem_filter.1 hx).1
  have hmv0 : ¬ (hasL q l = true ∧ p ≠ q) → movR l p q = putR (delL p l) { l[kL p l] with name := q } := fun h5 => by unfold movR; rw [if_neg hok, if_neg (by simp [hhas]), if_neg h5, hgd]
  obtain ⟨f0, hf0⟩ : ∃ f0, l[kL p l] = f0 := ⟨_, rfl⟩
  rw [hf0] at hge hmp hmv0
  have hwe := with_eq (f := { f0 with name := q }) (delL_tab (p := p) htab)
  refine Rg (fun E K hE hK => ?_)
  refine Us (rFind_ok l p (by omega) _ _) body_86 ?_
  refine Evf @hfe ?_
  refine hK _ _ _ ?_; clear hE hK K E
  refine AWP.seq ?_
  refine Rkf (show ¬ ((kL p l : Nat) : Int) < 0 by omega) ?_
  refine Bs ?_
  refine AWP.seq ?_
  by_cases hpq : p = q
  · have hmv := hmv0 (fun e => e.2 hpq)
    have hd : (p = q) = True := eq_true hpq
    refine Rkf (jn2 @mkS_list @hd) ?_
    refine Bs ?_
    refine Rgf (jn3 @hlm @hkn @hge) (fun E K hE hK => ?_)
    refine ⟨by omega, ?_⟩
    refine hK _ _ _ ?_; clear hE hK K E
    refine Rk ?_
    refine AWP.seqRegD [] [] [] mixed (by kernel_rfl) (by kernel_rfl) (fun K hK => .inl ?_) (by kernel_rfl); simp -implicitDefEqProofs only [go_sem, ↓reduceIte, Nat.reduceEqDiff, Nat.reduceAdd, Nat.reduceLT, Nat.reduceLeDiff, reduceCtorEq, Int.toNat_natCast]
    refine Ud (rWithout_ok l p (by omega) _ _) body_88 ?_
    rw [hwo]
    try (refine Ev ?_)
    refine Ud (rWith_ok (delL p l) { f0 with name := q } (by omega) hds hq _ _) body_87 ?_
    refine hK _ _ _ ?_; clear hK K
    refine AWP.ret ?_
    exact fin2 _ _ _ (putL { f0 with name := q } (delL p l)) (by rw [← hwe]; exact Er) (by exact Er) Ou (by rw [hmv, hmp])
  have hd : (p = q) = False := eq_false hpq
  cases hhq : hasL q l
  · have hmv := hmv0 (fun e => by rw [hhq] at e; exact absurd e.1 (by decide))
    rw [hhq, if_neg (by decide)] at hfe2
    refine Rgf (jn2 @mkS_list @hd) (fun E K hE hK => ?_)
    refine Us (rFind_ok l q (by omega) _ _) body_86 ?_
    refine Evf (jn2 @hfe2 (show ¬ (0 : Int) ≤ -1 by decide)) ?_
    refine hK _ _ _ ?_; clear hE hK K E
    refine Bs ?_
    refine Rgf (jn3 @hlm @hkn @hge) (fun E K hE hK => ?_)
    refine ⟨by omega, ?_⟩
    refine hK _ _ _ ?_; clear hE hK K E
    refine Rk ?_
    refine AWP.seqRegD [] [] [] mixed (by kernel_rfl) (by kernel_rfl) (fun K hK => .inl ?_) (by kernel_rfl); simp -implicitDefEqProofs only [go_sem, ↓reduceIte, Nat.reduceEqDiff, Nat.reduceAdd, Nat.reduceLT, Nat.reduceLeDiff, reduceCtorEq, Int.toNat_natCast]
    refine Ud (rWithout_ok l p (by omega) _ _) body_88 ?_
    rw [hwo]
    try (refine Ev ?_)
    refine Ud (rWith_ok (delL p l) { f0 with name := q } (by omega) hds hq _ _) body_87 ?_
    refine hK _ _ _ ?_; clear hK K
    refine AWP.ret ?_
    exact fin2 _ _ _ (putL { f0 with name := q } (delL p l)) (by rw [← hwe]; exact Er) (by exact Er) Ou (by rw [hmv, hmp])
  · rw [hhq, if_pos rfl, Nat.zero_add] at hfe2
    refine Rgf (jn2 @mkS_list @hd) (fun E K hE hK => ?_)
    refine Us (rFind_ok l q (by omega) _ _) body_86 ?_
    refine Evf (jn2 @hfe2 (show (0 : Int) ≤ ((kL q l : Nat) : Int) by omega)) ?_
    refine hK _ _ _ ?_; clear hE hK K E
    refine Bt ?_
    refine Rk ?_
    refine AWP.ret ?_
    refine Ev ?_
    exact fin _ _ _ 5 (by exact Er) (by exact Er) Ou (by unfold movR; rw [if_neg hok, if_neg (by simp [hhas]), if_pos ⟨hhq, hpq⟩])

end Go.Proofs.YtengjcdilnikhaaDoor
