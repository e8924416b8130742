/-
  Walk of the law WireBack.
-/
import Derived.Test.YthnhpbihgalgeaaDoorWiX1
import Derived.Test.YthnhpbihgalgeaaDoorWiL2
namespace Go.Proofs.YthnhpbihgalgeaaDoor
set_option linter.unusedSimpArgs false
set_option linter.unusedVariables false
set_option linter.unnecessarySimpa false
open Go Am
set_option maxRecDepth 100000

theorem WireBack_ok (l : List Fl) (s : S) (hs : ∀ f ∈ l, 0 ≤ f.sum ∧ f.sum < 4294967296) (hr : ∀ f ∈ l, f.rank < 18446744073709551616) (hl : l.length ≤ maxLen) (hsl : s.length ≤ maxLen) (h : Heap) (b : Nat) :
    ACalls Tryd.prog 7 [FlsV l, OctV s] h b 0 (fun r h' => r = BoolV true ∧ h' = h) := by
  refine ACalls.enter Tryd.func7 rfl (by simp [Tryd.ntmps7]) (fun ι w hn H => ?_)
  have hlow := H.lowCells
  have hmx : maxLen ≤ 9223372036854775807 := by decide
  have hmx2 : 100000 ≤ maxLen := by decide
  have hlo : (s.map encO).length = s.length := List.length_map _
  have fin : ∀ (t : Nat → AV) (hh : Heap) (n : Nat), t 4 = BoolV true → (∀ id, id < b → hh id = h id) → Am.Ends Tryd.prog ⟨Tryd.f7.ntmps, b, ι, h, w, x0⟩ Tryd.f7 0 (fun r h' => r = BoolV true ∧ h' = h) ⟨t, hh, n⟩ := by
    intro t hh n ht ho
    exact Ends.pure hn H ho (r0 := BoolV true) (by rw [show Tryd.f7.results.toList = [.tmp 4] from rfl]; exact Ecf @ht) (.v _) ⟨rfl, rfl⟩
  refine Rk ?_
  refine Rg (fun E K hE hK => ?_)
  refine Us (live_ok _ _) body_8 ?_
  refine hK _ _ _ ?_; clear hE hK K E
  refine AWP.seq ?_
  cases c0 : fewT l
  · refine Rg (fun E K hE hK => ?_)
    refine Us (fewT_ok l (by omega) _ _) body_9 ?_
    refine Evf @c0 ?_
    refine hK _ _ _ ?_; clear hE hK K E
    refine Bt ?_
    refine Rk ?_
    refine AWP.ret ?_
    refine Ev ?_
    exact fin _ _ _ (by exact Er) (fun _ _ => rfl)
  have hll := fewT_len c0
  by_cases c1 : (9000 : Int) < s.length
  · refine Rg (fun E K hE hK => ?_)
    refine Us (fewT_ok l (by omega) _ _) body_9 ?_
    refine Evf (jn3 @c0 @hlo @c1) ?_
    refine hK _ _ _ ?_; clear hE hK K E
    refine Bt ?_
    refine Rk ?_
    refine AWP.ret ?_
    refine Ev ?_
    exact fin _ _ _ (by exact Er) (fun _ _ => rfl)
  refine Rg (fun E K hE hK => ?_)
  refine Us (fewT_ok l (by omega) _ _) body_9 ?_
  refine Evf (jn3 @c0 @hlo @c1) ?_
  refine hK _ _ _ ?_; clear hE hK K E
  refine Bs ?_
  refine AWP.mid (fun st => st.n = 0 ∧ st.h = h ∧ st.t 0 = FlsV l ∧ st.t 5 = BoolV true) ?_ ?_
  · refine Rg (fun E K hE hK => ?_)
    refine Us (from_ok s hsl _ _) body_14 ?_
    refine hK _ _ _ ?_; clear hE hK K E
    by_cases c2 : (fromR s).2 = 0
    case neg =>
      refine Rkf @c2 ?_
      refine Bf ?_
      exact AWP.skip ⟨rfl, rfl, by exact Er, by exact Er⟩
    obtain ⟨d1, d2, d3⟩ := fromR_sound c2
    generalize (fromR s).1 = m at d1 d2 d3
    have hbr : bytesR m = (s, 0) := by unfold bytesR; rw [if_pos d1, d2]
    have hm := checkT_len d1
    have hd : decide (s = s) = true := decide_eq_true rfl
    refine Rkf @c2 ?_
    refine Bt ?_
    refine Rg (fun E K hE hK => ?_)
    refine Us (bytes_ok m (fun f hf => (d3 f hf).sum) (by omega) _ _) body_10 ?_
    refine Evf @hbr ?_
    refine hK _ _ _ ?_; clear hE hK K E
    refine Rg (fun E K hE hK => ?_)
    refine Us (sameB_ok s s _ _) body_12 ?_
    refine Us (tCheck_ok m (by omega) _ _) body_21 ?_
    refine Evf @d1 ?_
    refine hK _ _ _ ?_; clear hE hK K E
    refine Bf ?_
    exact AWP.skip ⟨rfl, rfl, by exact Er, by exact Er⟩
  rintro ⟨t, hh, n⟩ ⟨hn0, hh0, e0, e5⟩
  simp only at hn0 hh0 e0 e5
  subst hn0
  subst hh0
  refine Rgf @e0 (fun E K hE hK => ?_)
  refine Us (bytes_ok l hs (by omega) _ _) body_10 ?_
  refine hK _ _ _ ?_; clear hE hK K E
  refine Rgf @e0 (fun E K hE hK => ?_)
  refine Us (long_ok l hs (by omega) _ _) body_17 ?_
  refine hK _ _ _ ?_; clear hE hK K E
  refine AWP.seq ?_
  by_cases c3 : checkT l = 0
  case neg =>
    have hbr : bytesR l = ([], checkT l) := by unfold bytesR; rw [if_neg c3]
    have hlr : longR l = (0, checkT l) := by unfold longR; rw [if_neg c3]
    refine Rkf (jn2 @hbr @c3) ?_
    refine Bt ?_
    refine Rgf (jn5 @e5 @hlr @hbr @e0 (show ((0 : Nat) : Int) = 0 from rfl)) (fun E K hE hK => ?_)
    refine Us (tCheck_ok l (by omega) _ _) body_21 ?_
    refine hK _ _ _ ?_; clear hE hK K E
    refine AWP.ret ?_
    refine Ev ?_
    exact fin _ _ _ (by exact Er) (fun _ _ => rfl)
  have hbr : bytesR l = (tableB l, 0) := by unfold bytesR; rw [if_pos c3]
  have hlr : longR l = ((((tableB l).length : Nat) : Int), 0) := by unfold longR; rw [if_pos c3]
  have hB := bdR_of c3 hs hr
  have hfr := fromR_table hB c3
  have hsz := tableB_size hB (checkT_len c3)
  have hsm : sameL keyR (l.map canF) l = true := sameL_can hr
  refine Rkf @hbr ?_
  refine Bs ?_
  refine Rgf @hbr (fun E K hE hK => ?_)
  refine Us (from_ok (tableB l) (by omega) _ _) body_14 ?_
  refine Evf @hfr ?_
  refine hK _ _ _ ?_; clear hE hK K E
  refine Rgf (jn4 @e5 @hlr @hbr @e0) (fun E K hE hK => ?_)
  refine Us (tSameG_ok (l.map canF) l (by rw [List.length_map]; omega) _ _) body_13 ?_
  refine Evf @hsm ?_
  refine hK _ _ _ ?_; clear hE hK K E
  refine AWP.ret ?_
  exact fin _ _ _ (by exact Er) (fun _ _ => rfl)
end Go.Proofs.YthnhpbihgalgeaaDoor
