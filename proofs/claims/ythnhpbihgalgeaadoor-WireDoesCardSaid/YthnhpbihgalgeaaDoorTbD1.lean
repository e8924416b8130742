/-
  Walks of the reference for tables: May, Check, find, Get; Walks of the reference for tables: find, Get, without, with; Walks of the reference for tables: with, Put, Del, Move; Walks of the reference for tables: Put, Del, Move; Walk of the reference for tables: Move.
-/
import Derived.Test.YthnhpbihgalgeaaDoorTbW5
import Derived.Test.YthnhpbihgalgeaaDoorNmD1
import Derived.Test.YthnhpbihgalgeaaDoorTbSpec
import Derived.Test.YthnhpbihgalgeaaDoorTbW6
namespace Go.Proofs.YthnhpbihgalgeaaDoor
set_option linter.unusedSimpArgs false
set_option linter.unusedVariables false
set_option linter.unnecessarySimpa false
open Go Am
set_option maxRecDepth 100000

theorem rMayF_ok (f : Fl) (hs : f.name.length ≤ 1000) (h : Heap) (b : Nat) : ACalls Tryd.prog 30 [FlV f] h b 0 (fun r h' => r = BoolV (mayF f) ∧ h' = h) := by
  refine ACalls.enter Tryd.func30 rfl (by simp [Tryd.ntmps30]) (fun ι w hn H => ?_)
  have hms : (mkS f.name).size ≤ 1000 := by rw [mkS_size]; exact hs
  have fin : ∀ (t : Nat → AV) (hh : Heap) (n : Nat) (v : Bool), t 2 = BoolV v → (∀ id, id < b → hh id = h id) → v = mayF f → Am.Ends Tryd.prog ⟨Tryd.f30.ntmps, b, ι, h, w, x0⟩ Tryd.f30 0 (fun r h' => r = BoolV (mayF f) ∧ h' = h) ⟨t, hh, n⟩ := by
    intro t hh n v ht ho hv
    exact Ends.pure hn H ho (r0 := BoolV v) (by rw [show Tryd.f30.results.toList = [.tmp 2] from rfl]; exact Ecf @ht) (.v _) ⟨by rw [hv], rfl⟩
  refine Rk ?_
  by_cases c0 : chkN f.name = 0
  case neg =>
    refine Rg (fun E K hE hK => ?_)
    refine Us (rCheck_ok (mkS f.name) hms _ _) body_43 ?_
    refine Evf (jn2 @mkS_list @c0) ?_
    refine hK _ _ _ ?_; clear hE hK K E
    refine AWP.ret ?_
    exact fin _ _ _ false (by exact Er) Ou (by unfold mayF; simp [c0])
  by_cases c1 : 0 ≤ f.blk
  case neg =>
    refine Rg (fun E K hE hK => ?_)
    refine Us (rCheck_ok (mkS f.name) hms _ _) body_43 ?_
    refine Evf (jn3 @mkS_list @c0 @c1) ?_
    refine hK _ _ _ ?_; clear hE hK K E
    refine AWP.ret ?_
    exact fin _ _ _ false (by exact Er) Ou (by unfold mayF; simp [c1])
  by_cases c2 : f.blk ≤ 8192
  case neg =>
    refine Rg (fun E K hE hK => ?_)
    refine Us (rCheck_ok (mkS f.name) hms _ _) body_43 ?_
    refine Evf (jn4 @mkS_list @c0 @c1 @c2) ?_
    refine hK _ _ _ ?_; clear hE hK K E
    refine AWP.ret ?_
    exact fin _ _ _ false (by exact Er) Ou (by unfold mayF; simp [c2])
  by_cases c3 : 0 ≤ f.frm
  case neg =>
    refine Rg (fun E K hE hK => ?_)
    refine Us (rCheck_ok (mkS f.name) hms _ _) body_43 ?_
    refine Evf (jn5 @mkS_list @c0 @c1 @c2 @c3) ?_
    refine hK _ _ _ ?_; clear hE hK K E
    refine AWP.ret ?_
    exact fin _ _ _ false (by exact Er) Ou (by unfold mayF; simp [c3])
  by_cases c4 : f.frm ≤ 65536
  case neg =>
    refine Rg (fun E K hE hK => ?_)
    refine Us (rCheck_ok (mkS f.name) hms _ _) body_43 ?_
    refine Evf (jn6 @mkS_list @c0 @c1 @c2 @c3 @c4) ?_
    refine hK _ _ _ ?_; clear hE hK K E
    refine AWP.ret ?_
    exact fin _ _ _ false (by exact Er) Ou (by unfold mayF; simp [c4])
  by_cases c5 : 0 ≤ f.len
  case neg =>
    refine Rg (fun E K hE hK => ?_)
    refine Us (rCheck_ok (mkS f.name) hms _ _) body_43 ?_
    refine Evf (jn7 @mkS_list @c0 @c1 @c2 @c3 @c4 @c5) ?_
    refine hK _ _ _ ?_; clear hE hK K E
    refine AWP.ret ?_
    exact fin _ _ _ false (by exact Er) Ou (by unfold mayF; simp [c5])
  have hw : IntKind.i64.wrap (65536 - f.frm) = 65536 - f.frm := wrap_i64 (by omega) (by omega)
  by_cases c6 : f.len ≤ 65536 - f.frm
  case neg =>
    refine Rg (fun E K hE hK => ?_)
    refine Us (rCheck_ok (mkS f.name) hms _ _) body_43 ?_
    refine Evf (jn3 @mkS_list @c0 (jn7 @c1 @c2 @c3 @c4 @c5 @c6 @hw)) ?_
    refine hK _ _ _ ?_; clear hE hK K E
    refine AWP.ret ?_
    exact fin _ _ _ false (by exact Er) Ou (by unfold mayF; simp [c6])
  refine Rg (fun E K hE hK => ?_)
  refine Us (rCheck_ok (mkS f.name) hms _ _) body_43 ?_
  refine Evf (jn3 @mkS_list @c0 (jn7 @c1 @c2 @c3 @c4 @c5 @c6 @hw)) ?_
  refine hK _ _ _ ?_; clear hE hK K E
  refine AWP.ret ?_
  exact fin _ _ _ true (by exact Er) Ou (by unfold mayF; simp [c0, c1, c2, c3, c4, c5, c6])

def rtCkI (l : List Fl) (h : Heap) (b i : Nat) (st : St) : Prop :=
  (∀ id, id < b → st.h id = h id) ∧ st.t 0 = FlsV l ∧ st.t 8 = FlsV l ∧ st.t 9 = IntV l.length ∧ st.t 10 = IntV (i : Nat) ∧ tabF none l = tabF (prevN l i) (l.drop i) ∧ ∀ f ∈ l.take i, mayF f = true

theorem rCheckT_ok (l : List Fl) (hl : l.length ≤ 1000000) (hs : ∀ f ∈ l, f.name.length ≤ 1000) (h : Heap) (b : Nat) : ACalls Tryd.prog 28 [FlsV l] h b 0 (fun r h' => r = IntV (checkT l) ∧ h' = h) := by
  refine ACalls.enter Tryd.func28 rfl (by simp [Tryd.ntmps28]) (fun ι w hn H => ?_)
  have hlow := H.lowCells
  have hlm : (l.map encF).length = l.length := List.length_map _
  have fin : ∀ (t : Nat → AV) (hh : Heap) (n : Nat) (v : Int), t 2 = IntV v → (∀ id, id < b → hh id = h id) → v = checkT l → Am.Ends Tryd.prog ⟨Tryd.f28.ntmps, b, ι, h, w, x0⟩ Tryd.f28 0 (fun r h' => r = IntV (checkT l) ∧ h' = h) ⟨t, hh, n⟩ := by
    intro t hh n v ht ho hv
    exact Ends.pure hn H ho (r0 := IntV v) (by rw [show Tryd.f28.results.toList = [.tmp 2] from rfl]; exact Ecf @ht) (.v _) ⟨by rw [hv], rfl⟩
  refine Rk ?_
  refine AWP.seq ?_
  by_cases c0 : (256 : Int) < l.length
  · refine Rkf (jn2 @hlm @c0) ?_
    refine Bt ?_
    refine Rk ?_
    refine AWP.ret ?_
    refine Ev ?_
    exact fin _ _ _ 1 (by exact Er) Ou (by unfold checkT; rw [if_pos (by omega)])
  have hcx : checkT l = if tabF none l = true then 0 else 1 := by unfold checkT; rw [if_neg (by omega)]
  refine Rkf (jn2 @hlm @c0) ?_
  refine Bs ?_
  refine AWP.seq ?_
  refine Rkf @hlm ?_
  refine AWP.block ?_
  refine AWP.loopM 0 (fun m st => ∃ i, i ≤ l.length ∧ m = l.length - i ∧ rtCkI l h b i st) l.length rfl ⟨0, Nat.zero_le _, rfl, Ou, by exact Er, by exact Er, by exact Er, by exact Er, rfl, by simp⟩ ?_
  rintro m ⟨t, hh, n⟩ ⟨i, hi, rfl, ho, e0, e8, e9, e10, hc, hmay⟩ hn1
  simp only at ho e0 e8 e9 e10 hn1
  subst hn1
  refine Rkf (jn2 @e9 @e10) ?_
  refine AWP.seq ?_
  by_cases hlt : (i : Int) < l.length
  · have hw1 : IntKind.i64.wrap ((i : Int) + 1) = ((i + 1 : Nat) : Int) := by rw [wrap_i64 (by omega) (by omega)]; rfl
    have hi2 : i < l.length := by omega
    have hge := encF_getD l i hi2
    obtain ⟨f, hf⟩ : ∃ f, l[i] = f := ⟨_, rfl⟩
    have hdr : l.drop i = f :: l.drop (i + 1) := by rw [List.drop_eq_getElem_cons hi2, hf]
    have hpn : prevN l (i + 1) = some f.name := by unfold prevN; rw [if_neg (by omega), Nat.add_sub_cancel, List.getElem?_eq_getElem hi2, hf]; rfl
    rw [hf] at hge
    have hfs : f.name.length ≤ 1000 := hs f (by rw [← hf]; exact List.getElem_mem hi2)
    have hfs2 : (mkS f.name).size ≤ 1000 := by rw [mkS_size]; exact hfs
    have hc2 : tabF none l = (mayF f && (aheadF (prevN l i) f.name && tabF (some f.name) (l.drop (i + 1)))) := by rw [hc, hdr]; rfl
    have hnext : mayF f = true → aheadF (prevN l i) f.name = true → tabF none l = tabF (prevN l (i + 1)) (l.drop (i + 1)) := by
      intro g1 g2; rw [hc2, g1, g2, hpn]; rfl
    have hmay2 : mayF f = true → ∀ x ∈ l.take (i + 1), mayF x = true := by
      intro g x hx
      rw [List.take_add_one, List.getElem?_eq_getElem hi2, hf] at hx
      rcases List.mem_append.1 hx with hx | hx
      · exact hmay x hx
      · simp at hx; subst hx; exact g
    have bad : tabF none l = false → 1 = checkT l := fun e => by rw [hcx, e]; rfl
    refine Btf @hlt ?_
    refine AWP.skip ?_
    refine Ev ?_
    refine AWP.seq ?_
    refine AWP.block ?_
    refine Rgf (jn5 @e8 @e10 @hlm @hlt @hge) (fun E K hE hK => ?_)
    refine ⟨by omega, ?_⟩
    refine hK _ _ _ ?_; clear hE hK K E
    cases c1 : mayF f
    · refine AWP.seqRegDG [] [] [] mixed (drawF_ok (by kernel_rfl)) (by kernel_rfl) (fun K hK => ?_); simp -implicitDefEqProofs only [go_sem, ↓reduceIte, Nat.reduceEqDiff, Nat.reduceAdd, Nat.reduceLT, Nat.reduceLeDiff, reduceCtorEq, Int.toNat_natCast, decide_true]
      refine Ud (rMayF_ok f hfs _ _) body_30 ?_
      try (refine Evf @c1 ?_)
      repeat (first | (refine Gd 18 ?_) | (refine Gd 21 ?_) | (refine ⟨by omega, ?_⟩))
      refine hK _ _ _ ?_; clear hK K
      refine Bt ?_
      refine Rk ?_
      refine AWP.ret ?_
      refine Ev ?_
      exact fin _ _ _ 1 (by exact Er) (Ouf @ho) (bad (by rw [hc2, c1]; rfl))
    by_cases h0 : i = 0
    · have h0' : ¬ (0 : Int) < i := by omega
      refine AWP.seqRegDG [] [] [] mixed (drawF_ok (by kernel_rfl)) (by kernel_rfl) (fun K hK => ?_); simp -implicitDefEqProofs only [go_sem, ↓reduceIte, Nat.reduceEqDiff, Nat.reduceAdd, Nat.reduceLT, Nat.reduceLeDiff, reduceCtorEq, Int.toNat_natCast, h0']
      refine Ud (rMayF_ok f hfs _ _) body_30 ?_
      try (refine Evf @c1 ?_)
      repeat (first | (refine Gdf 18 @h0' ?_) | (refine Gdf 21 @h0' ?_) | (refine ⟨by omega, ?_⟩))
      refine hK _ _ _ ?_; clear hK K
      refine Bf ?_
      refine AWP.skip ?_
      refine Ev ?_
      refine Raf (jn2 @e10 @hw1) (fun E K hE hK => ?_); refine hK _ _ _ ?_; clear hE hK K E
      exact ⟨l.length - (i + 1), by omega, i + 1, by omega, rfl, cutH_outer (Nat.le_refl _) (Ouf @ho) hlow, by exact Ecf @e0, by exact Ecf @e8, by exact Ecf @e9, by exact Er, hnext c1 (by unfold prevN; rw [if_pos h0]; rfl), hmay2 c1⟩
    have h0' : (0 : Int) < i := by omega
    have hi3 : i - 1 < l.length := by omega
    have hge2 := encF_getD l (i - 1) hi3
    have hwm : IntKind.i64.wrap ((i : Int) - 1) = ((i - 1 : Nat) : Int) := by rw [wrap_i64 (by omega) (by omega)]; omega
    have hlt2 : ((i - 1 : Nat) : Int) < l.length := by omega
    obtain ⟨g, hg⟩ : ∃ g, l[i - 1] = g := ⟨_, rfl⟩
    have hpi : prevN l i = some g.name := by unfold prevN; rw [if_neg h0, List.getElem?_eq_getElem hi3, hg]; rfl
    rw [hg] at hge2
    have hgs : (mkS g.name).size ≤ 1000 := by rw [mkS_size, ← hg]; exact hs _ (List.getElem_mem hi3)
    have hgm : mayF g = true := hmay g (by
      have : l[i - 1]? = (l.take i)[i - 1]? := by rw [List.getElem?_take, if_pos (by omega)]
      rw [List.getElem?_eq_getElem hi3, hg] at this
      exact List.mem_of_getElem? this.symm)
    by_cases c3 : 0 ≤ cK g.name f.name
    · have hcm2 : decide (cmpP (parts g.name) (parts f.name) < 0) = false := decide_eq_false (show ¬ cK g.name f.name < 0 by omega)
      have hcm := hcm2
      refine AWP.seqRegDG [] [] [] mixed (drawF_ok (by kernel_rfl)) (by kernel_rfl) (fun K hK => ?_); simp -implicitDefEqProofs only [go_sem, ↓reduceIte, Nat.reduceEqDiff, Nat.reduceAdd, Nat.reduceLT, Nat.reduceLeDiff, reduceCtorEq, Int.toNat_natCast, h0', e0, hwm, hlm, hlt2, hge2]
      refine Ud (rMayF_ok f hfs _ _) body_30 ?_
      try (refine Evf @c1 ?_)
      repeat (first | (refine Gdf 18 (jn6 @h0' @e0 @hwm @hlm @hlt2 @hge2) ?_) | (refine Gdf 21 (jn6 @h0' @e0 @hwm @hlm @hlt2 @hge2) ?_) | (refine ⟨by omega, ?_⟩))
      refine Ud (rLess_ok (mkS g.name) (mkS f.name) hgs hfs2 _ _) body_42 ?_
      try (refine Evf (jn3 @mkS_list @hcm @hcm2) ?_)
      repeat (first | (refine Gdf 18 (jn6 @h0' @e0 @hwm @hlm @hlt2 @hge2) ?_) | (refine Gdf 21 (jn6 @h0' @e0 @hwm @hlm @hlt2 @hge2) ?_) | (refine ⟨by omega, ?_⟩))
      refine hK _ _ _ ?_; clear hK K
      refine Bt ?_
      refine Rk ?_
      refine AWP.ret ?_
      refine Ev ?_
      exact fin _ _ _ 1 (by exact Er) (Ouf @ho) (bad (by rw [hc2, hpi]; show (mayF f && (decide (cK g.name f.name < 0) && _)) = false; rw [decide_eq_false (show ¬ cK g.name f.name < 0 by omega)]; simp))
    · have hcm2 : decide (cmpP (parts g.name) (parts f.name) < 0) = true := decide_eq_true (show cK g.name f.name < 0 by omega)
      have hcm := hcm2
      refine AWP.seqRegDG [] [] [] mixed (drawF_ok (by kernel_rfl)) (by kernel_rfl) (fun K hK => ?_); simp -implicitDefEqProofs only [go_sem, ↓reduceIte, Nat.reduceEqDiff, Nat.reduceAdd, Nat.reduceLT, Nat.reduceLeDiff, reduceCtorEq, Int.toNat_natCast, h0', e0, hwm, hlm, hlt2, hge2]
      refine Ud (rMayF_ok f hfs _ _) body_30 ?_
      try (refine Evf @c1 ?_)
      repeat (first | (refine Gdf 18 (jn6 @h0' @e0 @hwm @hlm @hlt2 @hge2) ?_) | (refine Gdf 21 (jn6 @h0' @e0 @hwm @hlm @hlt2 @hge2) ?_) | (refine ⟨by omega, ?_⟩))
      refine Ud (rLess_ok (mkS g.name) (mkS f.name) hgs hfs2 _ _) body_42 ?_
      try (refine Evf (jn3 @mkS_list @hcm @hcm2) ?_)
      repeat (first | (refine Gdf 18 (jn6 @h0' @e0 @hwm @hlm @hlt2 @hge2) ?_) | (refine Gdf 21 (jn6 @h0' @e0 @hwm @hlm @hlt2 @hge2) ?_) | (refine ⟨by omega, ?_⟩))
      refine hK _ _ _ ?_; clear hK K
      refine Bf ?_
      refine AWP.skip ?_
      refine Ev ?_
      refine Raf (jn2 @e10 @hw1) (fun E K hE hK => ?_); refine hK _ _ _ ?_; clear hE hK K E
      exact ⟨l.length - (i + 1), by omega, i + 1, by omega, rfl, cutH_outer (Nat.le_refl _) (Ouf @ho) hlow, by exact Ecf @e0, by exact Ecf @e8, by exact Ecf @e9, by exact Er, hnext c1 (by rw [hpi]; unfold aheadF; simp only [decide_eq_true_eq]; omega), hmay2 c1⟩
  · refine Bff @hlt ?_
    refine AWP.exit ?_
    refine Ev ?_
    refine Rk ?_
    refine AWP.ret ?_
    refine fin _ _ _ 0 (by exact Er) ho ?_
    have : i = l.length := by omega
    subst this
    rw [hcx, hc, List.drop_length]
    cases prevN l l.length <;> rfl

end Go.Proofs.YthnhpbihgalgeaaDoor

namespace Go.Proofs.YthnhpbihgalgeaaDoor
set_option linter.unusedSimpArgs false
set_option linter.unusedVariables false
set_option linter.unnecessarySimpa false
open Go Am
set_option maxRecDepth 100000

def rFiI (l : List Fl) (p : S) (h : Heap) (b i : Nat) (st : St) : Prop :=
  (∀ id, id < b → st.h id = h id) ∧ st.t 1 = StrV p ∧ st.t 7 = FlsV l ∧ st.t 8 = IntV l.length ∧ st.t 9 = IntV (i : Nat) ∧ idxFrom (fun f : Fl => decide (f.name = p)) 0 l = idxFrom (fun f : Fl => decide (f.name = p)) i (l.drop i)

/-! ### without -/
def rWoI (l : List Fl) (p : S) (h : Heap) (b i : Nat) (st : St) : Prop :=
  ∃ ver cap, FlRow st.h b ver cap ((l.take i).filter (fun f => !decide (f.name = p))) ∧ (∀ id, id < b → st.h id = h id) ∧ st.t 1 = StrV p ∧ st.t 5 = .one (.win b ver 0 ((l.take i).filter (fun f => !decide (f.name = p))).length cap) ∧ st.t 8 = FlsV l ∧ st.t 9 = IntV l.length ∧ st.t 10 = IntV (i : Nat)

end Go.Proofs.YthnhpbihgalgeaaDoor

namespace Go.Proofs.YthnhpbihgalgeaaDoor
set_option linter.unusedSimpArgs false
set_option linter.unusedVariables false
set_option linter.unnecessarySimpa false
open Go Am
set_option maxRecDepth 100000

def wiI (f : Fl) (m : List Fl) (l : List Fl) (h : Heap) (b : Nat) (st : St) : Prop :=
  ∃ ver cap, FlRow st.h (b + 1) ver cap m ∧ st.h b = some ⟨0, (encF f).map .p⟩ ∧ (∀ id, id < b → st.h id = h id) ∧ st.t 0 = FlsV l ∧ st.t 3 = .one (.ptr b 0 0) ∧ st.t 5 = .one (.win (b + 1) ver 0 m.length cap)

abbrev lessF (f : Fl) (x : Fl) : Bool := decide (cK x.name f.name < 0)
abbrev moreF (f : Fl) (x : Fl) : Bool := decide (cK f.name x.name < 0)
theorem flow_low (f : Fl) (k : Nat) : lowCs k ((encF f).map Cell.p) = true := lowCs_p _ _

end Go.Proofs.YthnhpbihgalgeaaDoor

namespace Go.Proofs.YthnhpbihgalgeaaDoor
set_option linter.unusedSimpArgs false
set_option linter.unusedVariables false
set_option linter.unnecessarySimpa false
open Go Am
set_option maxRecDepth 100000

end Go.Proofs.YthnhpbihgalgeaaDoor

namespace Go.Proofs.YthnhpbihgalgeaaDoor
set_option linter.unusedSimpArgs false
set_option linter.unusedVariables false
set_option linter.unnecessarySimpa false
open Go Am
set_option maxRecDepth 100000

end Go.Proofs.YthnhpbihgalgeaaDoor
