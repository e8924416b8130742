/-
  Walk of the law WireApart.
-/
import Derived.Test.YthnhpbihgalgeaaDoorWiL1
namespace Go.Proofs.YthnhpbihgalgeaaDoor
set_option linter.unusedSimpArgs false
set_option linter.unusedVariables false
set_option linter.unnecessarySimpa false
open Go Am
set_option maxRecDepth 100000

theorem mayT_one {f : Fl} (h : checkT [f] = 0) : mayF f = true := by
  rw [checkT_one] at h
  by_cases c : mayF f = true
  · exact c
  · rw [if_neg c] at h; exact absurd h (by decide)
theorem same1_lend (f g : Fl) {hh : Heap} {id id2 : Nat} (hb : hh id = some ⟨0, (encF f).map .p⟩) (hb2 : hh id2 = some ⟨0, (encF g).map .p⟩) (b : Nat) :
    ACalls Tryd.prog 13 [.one (.win id 0 0 1 1), .one (.win id2 0 0 1 1)] hh b 0 (fun r h' => r = BoolV (sameL keyR [f] [g]) ∧ h' = hh) :=
  (tSameG_ok [f] [g] (by simp) noH b).lend (.cons (.one (view_fl1 f rfl hb)) (.cons (.one (view_fl1 g rfl hb2)) .nil)) (.one _)

theorem WireApart_ok (x y : List Fl) (f g : Fl) (hx : ∀ f ∈ x, 0 ≤ f.sum ∧ f.sum < 4294967296) (hy : ∀ f ∈ y, 0 ≤ f.sum ∧ f.sum < 4294967296) (hf : 0 ≤ f.sum ∧ f.sum < 4294967296) (hg : 0 ≤ g.sum ∧ g.sum < 4294967296)
    (lx : x.length ≤ maxLen) (ly : y.length ≤ maxLen) (lf : f.name.length ≤ maxLen) (lg : g.name.length ≤ maxLen) (h : Heap) (b : Nat) :
    ACalls Tryd.prog 4 [FlsV x, FlsV y, FlV f, FlV g] h b 0 (fun r h' => r = BoolV true ∧ h' = h) := by
  refine ACalls.enter Tryd.func4 rfl (by simp [Tryd.ntmps4]) (fun ι w hn H => ?_)
  have hlow := H.lowCells
  have hmx : maxLen ≤ 9223372036854775807 := by decide
  have s1 := mkS_size f.name
  have s2 := mkS_size g.name
  have fin : ∀ (t : Nat → AV) (hh : Heap) (n : Nat), t 8 = BoolV true → (∀ id, id < b → hh id = h id) → Am.Ends Tryd.prog ⟨Tryd.f4.ntmps, b, ι, h, w, x0⟩ Tryd.f4 0 (fun r h' => r = BoolV true ∧ h' = h) ⟨t, hh, n⟩ := by
    intro t hh n ht ho
    exact Ends.pure hn H ho (r0 := BoolV true) (by rw [show Tryd.f4.results.toList = [.tmp 8] from rfl]; exact Ecf @ht) (.v _) ⟨rfl, rfl⟩
  refine Rk ?_
  refine Rg (fun E K hE hK => ?_)
  refine Us (live_ok _ _) body_8 ?_
  refine hK _ _ _ ?_; clear hE hK K E
  refine AWP.seq ?_
  cases c0 : fewT x
  · refine Rg (fun E K hE hK => ?_)
    refine Us (fewT_ok x (by omega) _ _) body_9 ?_
    refine Evf @c0 ?_
    refine hK _ _ _ ?_; clear hE hK K E
    refine Bt ?_
    refine Rk ?_
    refine AWP.ret ?_
    refine Ev ?_
    exact fin _ _ _ (by exact Er) Ou
  cases c1 : fewT y
  · refine Rg (fun E K hE hK => ?_)
    refine Us (fewT_ok x (by omega) _ _) body_9 ?_
    refine Evf @c0 ?_
    refine Us (fewT_ok y (by omega) _ _) body_9 ?_
    refine Evf @c1 ?_
    refine hK _ _ _ ?_; clear hE hK K E
    refine Bt ?_
    refine Rk ?_
    refine AWP.ret ?_
    refine Ev ?_
    exact fin _ _ _ (by exact Er) Ou
  have lx2 := fewT_len c0
  have ly2 := fewT_len c1
  by_cases c2 : (200 : Int) < f.name.length
  · refine Rg (fun E K hE hK => ?_)
    refine Us (fewT_ok x (by omega) _ _) body_9 ?_
    refine Evf @c0 ?_
    refine Us (fewT_ok y (by omega) _ _) body_9 ?_
    refine Evf (jn3 @c1 @s1 @c2) ?_
    refine hK _ _ _ ?_; clear hE hK K E
    refine Bt ?_
    refine Rk ?_
    refine AWP.ret ?_
    refine Ev ?_
    exact fin _ _ _ (by exact Er) Ou
  by_cases c3 : (200 : Int) < g.name.length
  · refine Rg (fun E K hE hK => ?_)
    refine Us (fewT_ok x (by omega) _ _) body_9 ?_
    refine Evf @c0 ?_
    refine Us (fewT_ok y (by omega) _ _) body_9 ?_
    refine Evf (jn5 @c1 @s1 @c2 @s2 @c3) ?_
    refine hK _ _ _ ?_; clear hE hK K E
    refine Bt ?_
    refine Rk ?_
    refine AWP.ret ?_
    refine Ev ?_
    exact fin _ _ _ (by exact Er) Ou
  refine Rg (fun E K hE hK => ?_)
  refine Us (fewT_ok x (by omega) _ _) body_9 ?_
  refine Evf @c0 ?_
  refine Us (fewT_ok y (by omega) _ _) body_9 ?_
  refine Evf (jn5 @c1 @s1 @c2 @s2 @c3) ?_
  refine hK _ _ _ ?_; clear hE hK K E
  refine Bs ?_
  refine Rg (fun E K hE hK => ?_)
  refine Us (bytes_ok x hx (by omega) _ _) body_10 ?_
  refine hK _ _ _ ?_; clear hE hK K E
  refine Rg (fun E K hE hK => ?_)
  refine Us (bytes_ok y hy (by omega) _ _) body_10 ?_
  refine hK _ _ _ ?_; clear hE hK K E
  refine AWP.mid (fun s' => s'.n = 2 ∧ s'.h = upd (upd h b ⟨0, (encF f).map .p⟩) (b + 1) ⟨0, (encF g).map .p⟩ ∧ s'.t 6 = .one (.ptr b 0 0) ∧ s'.t 7 = .one (.ptr (b + 1) 0 0) ∧ s'.t 9 = BoolV true) ?_ ?_
  · by_cases d1 : checkT x = 0
    case neg =>
      have hbx : bytesR x = ([], checkT x) := by unfold bytesR; rw [if_neg d1]
      refine Rkf (jn2 @hbx @d1) ?_
      refine Bf ?_
      refine AWP.skip ⟨rfl, rfl, by exact Er, by exact Er, by exact Er⟩
    have hbx : bytesR x = (tableB x, 0) := by unfold bytesR; rw [if_pos d1]
    by_cases d2 : checkT y = 0
    case neg =>
      have hby : bytesR y = ([], checkT y) := by unfold bytesR; rw [if_neg d2]
      refine Rkf (jn3 @hbx @hby @d2) ?_
      refine Bf ?_
      refine AWP.skip ⟨rfl, rfl, by exact Er, by exact Er, by exact Er⟩
    have hby : bytesR y = (tableB y, 0) := by unfold bytesR; rw [if_pos d2]
    obtain ⟨b1, n1⟩ := check_bd d1 hx
    obtain ⟨b2, n2⟩ := check_bd d2 hy
    have hiff : decide (tableB x = tableB y) = sameL keyR x y := by
      rw [Bool.eq_iff_iff, decide_eq_true_eq]; exact tableB_iff b1 b2 n1 n2
    refine Rgf (jn2 @hbx @hby) (fun E K hE hK => ?_)
    refine Us (sameB_ok (tableB x) (tableB y) _ _) body_12 ?_
    refine Us (tSameG_ok x y (by omega) _ _) body_13 ?_
    rw [hiff]
    have hbb : ∀ v : Bool, (v != v) = false := fun v => by cases v <;> rfl
    refine Evf @hbb ?_
    refine hK _ _ _ ?_; clear hE hK K E
    refine Bf ?_
    refine AWP.skip ⟨rfl, rfl, by exact Er, by exact Er, by exact Er⟩
  rintro ⟨t, hh, n⟩ ⟨hn0, hh0, e6, e7, e9⟩
  simp only at hn0 hh0 e6 e7 e9
  subst hn0
  subst hh0
  refine Rgf @e6 (fun E K hE hK => ?_)
  refine Us (one_ok f hf _ _) body_11 ?_
  refine hK _ _ _ ?_; clear hE hK K E
  refine Rgf @e7 (fun E K hE hK => ?_)
  refine Us (one_ok g hg _ _) body_11 ?_
  refine hK _ _ _ ?_; clear hE hK K E
  by_cases d1 : checkT [f] = 0
  case neg =>
    have h1 : oneB f = ([], checkT [f]) := by unfold oneB; rw [if_neg d1]
    refine AWP.seqRegDG [] [] [] mixed (drawF_ok (by kernel_rfl)) (by kernel_rfl) (fun K hK => ?_); simp -implicitDefEqProofs only [go_sem, ↓reduceIte, Nat.reduceEqDiff, Nat.reduceAdd, Nat.reduceLT, Nat.reduceLeDiff, reduceCtorEq, Int.toNat_natCast, h1, d1, e9]
    repeat (first | (refine Gdf 76 (jn3 @h1 @d1 @e9) ?_) | (refine Gdf 79 (jn2 @h1 @d1) ?_) | (refine Gdf 83 (jn2 @h1 @d1) ?_))
    refine hK _ _ _ ?_; clear hK K
    refine AWP.ret ?_
    exact fin _ _ _ (by exact Er) Ou
  by_cases d2 : checkT [g] = 0
  case neg =>
    have h1 : oneB f = (fileB f, 0) := by unfold oneB; rw [if_pos d1]
    have h2 : oneB g = ([], checkT [g]) := by unfold oneB; rw [if_neg d2]
    refine AWP.seqRegDG [] [] [] mixed (drawF_ok (by kernel_rfl)) (by kernel_rfl) (fun K hK => ?_); simp -implicitDefEqProofs only [go_sem, ↓reduceIte, Nat.reduceEqDiff, Nat.reduceAdd, Nat.reduceLT, Nat.reduceLeDiff, reduceCtorEq, Int.toNat_natCast, h1, h2, d2, e9]
    repeat (first | (refine Gdf 76 (jn4 @h1 @h2 @d2 @e9) ?_) | (refine Gdf 79 (jn3 @h1 @h2 @d2) ?_) | (refine Gdf 83 (jn2 @h1 @d2) ?_))
    refine hK _ _ _ ?_; clear hK K
    refine AWP.ret ?_
    exact fin _ _ _ (by exact Er) Ou
  have h1 : oneB f = (fileB f, 0) := by unfold oneB; rw [if_pos d1]
  have h2 : oneB g = (fileB g, 0) := by unfold oneB; rw [if_pos d2]
  have hiff : decide (fileB f = fileB g) = sameL keyR [f] [g] := by
    rw [Bool.eq_iff_iff, decide_eq_true_eq]
    constructor
    · intro e
      have := (fileB_inj (u := []) (v := []) ⟨mayT_one d1, hf⟩ ⟨mayT_one d2, hg⟩ (by rw [e])).1
      show (sameX keyR f g && true) = true
      rw [this]; rfl
    · intro e
      have e' : (sameX keyR f g && true) = true := e
      exact fileB_same (by simpa using e')
  have hbb : ∀ v : Bool, (v == v) = true := fun v => by cases v <;> rfl
  refine AWP.seqRegDG [] [] [] mixed (drawF_ok (by kernel_rfl)) (by kernel_rfl) (fun K hK => ?_); simp -implicitDefEqProofs only [go_sem, ↓reduceIte, Nat.reduceEqDiff, Nat.reduceAdd, Nat.reduceLT, Nat.reduceLeDiff, reduceCtorEq, Int.toNat_natCast, h1, h2, e9, e6, e7]
  repeat (first | (refine Gdf 76 (jn5 @h1 @h2 @e9 @e6 @e7) ?_) | (refine Gdf 79 (jn4 @h1 @h2 @e6 @e7) ?_) | (refine Gdf 83 (jn4 @h1 @h2 @e6 @e7) ?_))
  refine Ud (sameB_ok (fileB f) (fileB g) _ _) body_12 ?_
  rw [hiff]
  repeat (first | (refine Gdf 83 (jn2 @e6 @e7) ?_) | (refine ⟨by decide, ?_⟩))
  refine Ud (tSameG_ok [f] [g] (by simp) _ _) body_13 ?_
  repeat (first | (refine Gdf 76 @hbb ?_) | (refine Gdf 83 @hbb ?_))
  refine hK _ _ _ ?_; clear hK K
  refine AWP.ret ?_
  exact fin _ _ _ (by exact Erf @hbb) Ou
end Go.Proofs.YthnhpbihgalgeaaDoor
