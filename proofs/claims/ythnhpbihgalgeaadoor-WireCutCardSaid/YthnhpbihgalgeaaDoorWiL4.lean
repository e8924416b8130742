/-
  Walk of the law WireCut.
-/
import Derived.Test.YthnhpbihgalgeaaDoorWiL3
namespace Go.Proofs.YthnhpbihgalgeaaDoor
set_option linter.unusedSimpArgs false
set_option linter.unusedVariables false
set_option linter.unnecessarySimpa false
open Go Am
set_option maxRecDepth 100000

theorem from_lend (s : S) (hs : s.length ≤ maxLen) {hh : Heap} {id ver cap : Nat} {T : List Cell} (hb : hh id = some (rowB ver (s.map encO) T)) (b : Nat) :
    ACalls Tryd.prog 14 [.one (.win id ver 0 s.length cap)] hh b 0 (fun r h' => r = .tup [FlsV (fromR s).1, IntV (fromR s).2] ∧ h' = delP hh (fun i => decide (i = id))) :=
  (from_ok s hs (delP hh (fun i => decide (i = id))) b).seal (fun i => decide (i = id)) (.cons (.one (view_octs s (by simp) hb)) .nil)

theorem WireCut_ok (l : List Fl) (cut : Int) (more s : S) (hs : ∀ f ∈ l, 0 ≤ f.sum ∧ f.sum < 4294967296) (hr : ∀ f ∈ l, f.rank < 18446744073709551616) (hl : l.length ≤ maxLen) (hml : more.length ≤ maxLen) (hsl : s.length ≤ maxLen) (h : Heap) (b : Nat) :
    ACalls Tryd.prog 5 [FlsV l, IntV cut, OctV more, OctV s] h b 0 (fun r h' => r = BoolV true ∧ h' = h) := by
  refine ACalls.enter Tryd.func5 rfl (by simp [Tryd.ntmps5]) (fun ι w hn H => ?_)
  have hlow := H.lowCells
  have hmx : maxLen ≤ 9223372036854775807 := by decide
  have hmx2 : 100000 ≤ maxLen := by decide
  have hlo : (s.map encO).length = s.length := List.length_map _
  have hlm : (more.map encO).length = more.length := List.length_map _
  have hlf : (l.map encF).length = l.length := List.length_map _
  have fin : ∀ (t : Nat → AV) (hh : Heap) (n : Nat), t 8 = BoolV true → (∀ id, id < b → hh id = h id) → Am.Ends Tryd.prog ⟨Tryd.f5.ntmps, b, ι, h, w, x0⟩ Tryd.f5 0 (fun r h' => r = BoolV true ∧ h' = h) ⟨t, hh, n⟩ := by
    intro t hh n ht ho
    exact Ends.pure hn H ho (r0 := BoolV true) (by rw [show Tryd.f5.results.toList = [.tmp 8] from rfl]; exact Ecf @ht) (.v _) ⟨rfl, rfl⟩
  refine Rk ?_
  refine Rg (fun E K hE hK => ?_)
  refine Us (live_ok _ _) body_8 ?_
  refine hK _ _ _ ?_; clear hE hK K E
  refine AWP.seq ?_
  cases c0 : fewT l
  · refine Rg (fun E K hE hK => ?_)
    refine Us (fewT_ok l (by omega) _ _) body_9 ?_
    refine Evf @c0 ?_
    refine hK _ _ _ ?_; clear hE hK K E
    refine Bt ?_
    refine Rk ?_
    refine AWP.ret ?_
    refine Ev ?_
    exact fin _ _ _ (by exact Er) (fun _ _ => rfl)
  have hll := fewT_len c0
  by_cases c1 : (60 : Int) < l.length
  · refine Rg (fun E K hE hK => ?_)
    refine Us (fewT_ok l (by omega) _ _) body_9 ?_
    refine Evf (jn3 @c0 @hlf @c1) ?_
    refine hK _ _ _ ?_; clear hE hK K E
    refine Bt ?_
    refine Rk ?_
    refine AWP.ret ?_
    refine Ev ?_
    exact fin _ _ _ (by exact Er) (fun _ _ => rfl)
  by_cases c2 : (100 : Int) < more.length
  · refine Rg (fun E K hE hK => ?_)
    refine Us (fewT_ok l (by omega) _ _) body_9 ?_
    refine Evf (jn5 @c0 @hlf @c1 @hlm @c2) ?_
    refine hK _ _ _ ?_; clear hE hK K E
    refine Bt ?_
    refine Rk ?_
    refine AWP.ret ?_
    refine Ev ?_
    exact fin _ _ _ (by exact Er) (fun _ _ => rfl)
  by_cases c3 : (9000 : Int) < s.length
  · refine Rg (fun E K hE hK => ?_)
    refine Us (fewT_ok l (by omega) _ _) body_9 ?_
    refine Evf (jn7 @c0 @hlf @c1 @hlm @c2 @hlo @c3) ?_
    refine hK _ _ _ ?_; clear hE hK K E
    refine Bt ?_
    refine Rk ?_
    refine AWP.ret ?_
    refine Ev ?_
    exact fin _ _ _ (by exact Er) (fun _ _ => rfl)
  refine Rg (fun E K hE hK => ?_)
  refine Us (fewT_ok l (by omega) _ _) body_9 ?_
  refine Evf (jn7 @c0 @hlf @c1 @hlm @c2 @hlo @c3) ?_
  refine hK _ _ _ ?_; clear hE hK K E
  refine Bs ?_
  refine Rg (fun E K hE hK => ?_)
  refine Us (from_ok s hsl _ _) body_14 ?_
  refine hK _ _ _ ?_; clear hE hK K E
  refine AWP.mid (fun st => st.n = 0 ∧ st.h = h ∧ st.t 0 = FlsV l ∧ st.t 1 = IntV cut ∧ st.t 2 = OctV more ∧ st.t 9 = BoolV true) ?_ ?_
  · by_cases d1 : (fromR s).2 = 0
    · refine Rkf @d1 ?_
      refine Bf ?_
      exact AWP.skip ⟨rfl, rfl, by exact Er, by exact Er, by exact Er, by exact Er⟩
    · have hb := fromR_bad (by omega) d1
      refine Rkf (jn3 @hb (show ¬ (2 : Int) = 0 by decide) (show ((0 : Nat) : Int) = 0 from rfl)) ?_
      refine Bf ?_
      exact AWP.skip ⟨rfl, rfl, by exact Er, by exact Er, by exact Er, by exact Er⟩
  rintro ⟨t, hh, n⟩ ⟨hn0, hh0, e0, e1, e2, e9⟩
  simp only at hn0 hh0 e0 e1 e2 e9
  subst hn0
  subst hh0
  refine Rgf @e0 (fun E K hE hK => ?_)
  refine Us (bytes_ok l hs (by omega) _ _) body_10 ?_
  refine hK _ _ _ ?_; clear hE hK K E
  refine AWP.seq ?_
  by_cases d2 : checkT l = 0
  case neg =>
    have hbr : bytesR l = ([], checkT l) := by unfold bytesR; rw [if_neg d2]
    refine Rkf (jn2 @hbr @d2) ?_
    refine Bt ?_
    refine Rkf @e9 ?_
    refine AWP.ret ?_
    refine Ev ?_
    exact fin _ _ _ (by exact Er) (fun _ _ => rfl)
  have hbr : bytesR l = (tableB l, 0) := by unfold bytesR; rw [if_pos d2]
  have hB := bdR_of d2 hs hr
  have hsz := tableB_size hB (checkT_len d2)
  have htl : ((tableB l).map encO).length = (tableB l).length := List.length_map _
  refine Rkf @hbr ?_
  refine Bs ?_
  refine AWP.mid (fun st => st.n = 0 ∧ st.h = hh ∧ st.t 2 = OctV more ∧ st.t 9 = BoolV true ∧ st.t 12 = OctV (tableB l)) ?_ ?_
  · by_cases k1 : 0 ≤ cut
    case neg =>
      refine Rkf (jn2 @e1 @k1) ?_
      refine Bf ?_
      exact AWP.skip ⟨rfl, rfl, by exact Ecf @e2, by exact Ecf @e9, by exact Erf @hbr⟩
    by_cases k2 : cut < (tableB l).length
    case neg =>
      refine Rkf (jn5 @e1 @k1 @hbr @htl @k2) ?_
      refine Bf ?_
      exact AWP.skip ⟨rfl, rfl, by exact Ecf @e2, by exact Ecf @e9, by exact Erf @hbr⟩
    obtain ⟨c, rfl⟩ : ∃ c : Nat, cut = c := ⟨cut.toNat, by omega⟩
    have hcut := fromR_cut hB d2 (k := c) (by omega)
    refine Rkf (jn5 @e1 @k1 @hbr @htl @k2) ?_
    refine Bt ?_
    refine Rgf (jn3 @e1 @hbr @htl) (fun E K hE hK => ?_)
    refine ⟨by omega, ?_⟩
    rw [map_take_oct]
    refine Us (from_ok ((tableB l).take c) (by rw [List.length_take]; omega) _ _) body_14 ?_
    refine Evf @hcut ?_
    refine hK _ _ _ ?_; clear hE hK K E
    refine Rk ?_
    refine Bf ?_
    exact AWP.skip ⟨rfl, rfl, by exact Ecf @e2, by exact Ecf @e9, by exact Erf @hbr⟩
  rintro ⟨t, hh2, n⟩ ⟨hn0, hh0, e2, e9, e12⟩
  simp only at hn0 hh0 e2 e9 e12
  subst hn0
  subst hh0
  have hfm := fromR_more hB d2 more (by rw [List.length_append]; omega)
  refine Rgf (jn2 @e12 @e2) (fun E K hE hK => ?_)
  refine BiR.of ?_
  refine append_nil_oct (y := tableB l) ty_isIntT_25 (by simp only [srcA, if_true, List.length_map, flat_oct]) (by omega) (fun cap1 T1 q1 q2 => ?_)
  refine Evf @e2 ?_
  refine BiR.of ?_
  refine append_oct (y := more) ⟨T1, upd_same _ _ _, q1, q2⟩ ty_isIntT_25 (by simp only [srcA, if_true, List.length_map, flat_oct]) (by omega) (by omega) (fun cap2 T2 g1 g2 => ?_)
  rw [upd_upd, show (tableB l).length + more.length = (tableB l ++ more).length by simp]
  refine Ev ?_
  refine Us (from_lend (tableB l ++ more) (by rw [List.length_append]; omega) (upd_same _ _ _) _) body_14 ?_
  refine Evf @hfm ?_
  refine hK _ _ _ ?_; clear hE hK K E
  by_cases k3 : more = []
  · rw [if_pos k3]
    have hz : ((more.length : Nat) : Int) = 0 := by subst k3; rfl
    refine Rkf (jn4 @e9 @e2 @hlm @hz) ?_
    refine AWP.ret ?_
    exact fin _ _ _ (by exact Er) (fun id (hid : id < b) => by simp -implicitDefEqProofs only [go_sem, ↓reduceIte, Nat.reduceEqDiff, Nat.reduceAdd, Nat.reduceLT, Nat.reduceLeDiff, reduceCtorEq, Int.toNat_natCast, delP, show ¬ id = b by omega, decide_false])
  · rw [if_neg k3]
    have hz : ¬ ((more.length : Nat) : Int) = 0 := by
      intro e; exact k3 (List.eq_nil_of_length_eq_zero (by omega))
    refine Rkf (jn5 @e9 @e2 @hlm @hz (show ¬ (2 : Int) = 0 by decide)) ?_
    refine AWP.ret ?_
    exact fin _ _ _ (by exact Er) (fun id (hid : id < b) => by simp -implicitDefEqProofs only [go_sem, ↓reduceIte, Nat.reduceEqDiff, Nat.reduceAdd, Nat.reduceLT, Nat.reduceLeDiff, reduceCtorEq, Int.toNat_natCast, delP, show ¬ id = b by omega, decide_false])
end Go.Proofs.YthnhpbihgalgeaaDoor
