/-
  Walk of the law TableOrder.
-/
import Derived.Test.YtengjcdilnikhaaDoorTbL0
import Derived.Test.YtengjcdilnikhaaDoorTbW7
namespace Go.Proofs.YtengjcdilnikhaaDoor
set_option linter.unusedSimpArgs false
set_option linter.unusedVariables false
set_option linter.unnecessarySimpa false
open Go Am
set_option maxRecDepth 100000

theorem TableOrder_ok (l : List Fl) (f g : Fl) (hl : l.length ≤ maxLen) (hf : f.name.length ≤ maxLen) (hg : g.name.length ≤ maxLen) (h : Heap) (b : Nat) :
    ACalls Tryd.prog 10 [FlsV l, FlV f, FlV g] h b 0 (fun r h' => r = BoolV true ∧ h' = h) := by
  refine ACalls.enter Tryd.func10 rfl (by simp [Tryd.ntmps10]) (fun ι w hn H => ?_)
  have hmx : maxLen ≤ 9223372036854775807 := by decide
  have hlm : (l.map encF).length = l.length := List.length_map _
  have s1 := mkS_size f.name
  have s2 := mkS_size g.name
  have fin : ∀ (t : Nat → AV) (hh : Heap) (n : Nat), t 6 = BoolV true → (∀ id, id < b → hh id = h id) → Am.Ends Tryd.prog ⟨Tryd.f10.ntmps, b, ι, h, w, x0⟩ Tryd.f10 0 (fun r h' => r = BoolV true ∧ h' = h) ⟨t, hh, n⟩ := by
    intro t hh n ht ho
    exact Ends.pure hn H ho (r0 := BoolV true) (by rw [show Tryd.f10.results.toList = [.tmp 6] from rfl]; exact Ecf @ht) (.v _) ⟨rfl, rfl⟩
  refine Rk ?_
  refine Rg (fun E K hE hK => ?_)
  refine Us (live_ok _ _) body_34 ?_
  refine hK _ _ _ ?_; clear hE hK K E
  refine AWP.seq ?_
  cases c1 : fewT l
  · refine Rg (fun E K hE hK => ?_)
    refine Us (fewT_ok l (by omega) _ _) body_41 ?_
    refine Evf @c1 ?_
    refine hK _ _ _ ?_; clear hE hK K E
    refine Bt ?_
    refine Rk ?_
    refine AWP.ret ?_
    refine Ev ?_
    exact fin _ _ _ (by exact Er) Ou
  by_cases c2 : (60 : Int) < l.length
  · refine Rg (fun E K hE hK => ?_)
    refine Us (fewT_ok l (by omega) _ _) body_41 ?_
    refine Evf (jn3 @c1 @hlm @c2) ?_
    refine hK _ _ _ ?_; clear hE hK K E
    refine Bt ?_
    refine Rk ?_
    refine AWP.ret ?_
    refine Ev ?_
    exact fin _ _ _ (by exact Er) Ou
  by_cases c3 : (200 : Int) < f.name.length
  · refine Rg (fun E K hE hK => ?_)
    refine Us (fewT_ok l (by omega) _ _) body_41 ?_
    refine Evf (jn5 @c1 @hlm @c2 @s1 @c3) ?_
    refine hK _ _ _ ?_; clear hE hK K E
    refine Bt ?_
    refine Rk ?_
    refine AWP.ret ?_
    refine Ev ?_
    exact fin _ _ _ (by exact Er) Ou
  by_cases c4 : (200 : Int) < g.name.length
  · refine Rg (fun E K hE hK => ?_)
    refine Us (fewT_ok l (by omega) _ _) body_41 ?_
    refine Evf (jn7 @c1 @hlm @c2 @s1 @c3 @s2 @c4) ?_
    refine hK _ _ _ ?_; clear hE hK K E
    refine Bt ?_
    refine Rk ?_
    refine AWP.ret ?_
    refine Ev ?_
    exact fin _ _ _ (by exact Er) Ou
  refine Rg (fun E K hE hK => ?_)
  refine Us (fewT_ok l (by omega) _ _) body_41 ?_
  refine Evf (jn7 @c1 @hlm @c2 @s1 @c3 @s2 @c4) ?_
  refine hK _ _ _ ?_; clear hE hK K E
  refine Bs ?_
  obtain ⟨x, e1, hx⟩ : ∃ x e1, putR l f = (x, e1) := ⟨_, _, rfl⟩
  obtain ⟨y, e2, hy⟩ : ∃ y e2, putR l g = (y, e2) := ⟨_, _, rfl⟩
  refine Rg (fun E K hE hK => ?_)
  refine Us (Put_ok l f (by omega) _ _) body_36 ?_
  refine Evf @hx ?_
  refine hK _ _ _ ?_; clear hE hK K E
  refine Rg (fun E K hE hK => ?_)
  refine Us (Put_ok l g (by omega) _ _) body_36 ?_
  refine Evf @hy ?_
  refine hK _ _ _ ?_; clear hE hK K E
  refine AWP.seq ?_
  by_cases b1 : e1 = 0
  case neg =>
    refine Rkf @b1 ?_
    refine Bt ?_
    refine Rk ?_
    refine AWP.ret ?_
    refine Ev ?_
    exact fin _ _ _ (by exact Er) Ou
  subst b1
  by_cases b2 : e2 = 0
  case neg =>
    refine Rkf @b2 ?_
    refine Bt ?_
    refine Rk ?_
    refine AWP.ret ?_
    refine Ev ?_
    exact fin _ _ _ (by exact Er) Ou
  subst b2
  refine Rk ?_
  refine Bs ?_
  obtain ⟨hxe, hck, hmf, hxl, hxc⟩ := putR_ok hx
  obtain ⟨hye, _, hmg, hyl, hyc⟩ := putR_ok hy
  have hxlen : x.length ≤ l.length + 1 := by rw [hxe, putL_len]; split <;> omega
  have hylen : y.length ≤ l.length + 1 := by rw [hye, putL_len]; split <;> omega
  have hp1 : putR x g = (putL g x, 0) := putR_put hxc hmg (by omega)
  have hp2 : putR y f = (putL f y, 0) := putR_put hyc hmf (by omega)
  have hz1 : (putL g x).length ≤ 1000000 := by rw [putL_len]; split <;> omega
  have hsame : f.name ≠ g.name → putL f y = putL g x := fun hne => by rw [hxe, hye]; exact (put_two hne l).symm
  have hgr : getR l f.name = if hasL f.name l = true then (l.getD (kL f.name l) zeroF, 0) else (zeroF, 4) := by unfold getR; rw [if_neg (by simp [hck, mayF_chk hmf])]
  refine Rg (fun E K hE hK => ?_)
  refine Us (Put_ok x g (by omega) _ _) body_36 ?_
  refine Evf @hp1 ?_
  refine hK _ _ _ ?_; clear hE hK K E
  refine Rg (fun E K hE hK => ?_)
  refine Us (Put_ok y f (by omega) _ _) body_36 ?_
  refine Evf @hp2 ?_
  refine hK _ _ _ ?_; clear hE hK K E
  have hrest : ∀ (t : Nat → AV) (hh : Heap), hh = upd (upd h b ⟨0, (encF f).map .p⟩) (b + 1) ⟨0, (encF g).map .p⟩ → True := fun _ _ _ => trivial
  refine AWP.mid (fun s' => s'.n = 2 ∧ s'.h = upd (upd h b ⟨0, (encF f).map .p⟩) (b + 1) ⟨0, (encF g).map .p⟩ ∧ s'.t 0 = FlsV l ∧ s'.t 4 = .one (.ptr b 0 0) ∧ s'.t 7 = BoolV true ∧ s'.t 8 = FlsV x) ?_ ?_
  · by_cases hne : f.name = g.name
    · have hn1 : (f.name = g.name) = True := eq_true hne
      refine Rkf (jn2 @mkS_list @hn1) ?_
      refine Bf ?_
      exact AWP.skip ⟨by exact Er, by exact Er, by exact Er, by exact Er, by exact Er, by exact Er⟩
    · have hn0 : (f.name = g.name) = False := eq_false hne
      refine Rgf (jn2 @mkS_list @hn0) (fun E K hE hK => ?_)
      rw [hsame hne]
      refine Us (tSame_ok (putL g x) hz1 _ _) body_42 ?_
      refine hK _ _ _ ?_; clear hE hK K E
      refine Bf ?_
      exact AWP.skip ⟨by exact Er, by exact Er, by exact Er, by exact Er, by exact Er, by exact Er⟩
  rintro ⟨t, hh, n⟩ ⟨q0, q1, e0, e4, e7, e8⟩
  simp only at q0 q1 e0 e4 e7 e8
  subst q0 q1
  refine AWP.seq ?_
  cases hhas : hasL f.name l
  · rw [hhas] at hgr
    have hdel : delR x f.name = (l, 0) := by
      unfold delR
      rw [if_neg (by simp [hxc, mayF_chk hmf]), hxe, if_pos (put_has f l), put_del hhas]
    refine Rgf (jn2 @e0 @e4) (fun E K hE hK => ?_)
    refine Us (Get_ok l f.name (by omega) _ _) body_40 ?_
    refine Evf (jn2 @hgr (show ¬ (false : Bool) = true by decide)) ?_
    refine hK _ _ _ ?_; clear hE hK K E
    refine Rk ?_
    refine Bs ?_
    refine Rgf (jn2 @e4 @e8) (fun E K hE hK => ?_)
    refine Us (Del_ok x f.name (by omega) _ _) body_37 ?_
    refine Evf @hdel ?_
    refine hK _ _ _ ?_; clear hE hK K E
    refine Rgf (jn2 @e0 @e7) (fun E K hE hK => ?_)
    refine Us (tSame_ok l (by omega) _ _) body_42 ?_
    refine hK _ _ _ ?_; clear hE hK K E
    refine AWP.ret ?_
    exact fin _ _ _ (by exact Er) Ou
  · rw [hhas] at hgr
    have hlen : x.length = l.length := by rw [hxe, putL_len, hhas]; simp
    have hlx : (x.map encF).length = l.length := by rw [List.length_map, hlen]
    refine Rgf (jn2 @e0 @e4) (fun E K hE hK => ?_)
    refine Us (Get_ok l f.name (by omega) _ _) body_40 ?_
    refine Evf @hgr ?_
    refine hK _ _ _ ?_; clear hE hK K E
    refine Rkf (show ¬ (0 : Int) = 4 by decide) ?_
    refine Bt ?_
    refine Rkf (jn5 @e0 @e7 @e8 @hlm @hlx) ?_
    refine AWP.ret ?_
    refine Ev ?_
    exact fin _ _ _ (by exact Er) Ou

end Go.Proofs.YtengjcdilnikhaaDoor
