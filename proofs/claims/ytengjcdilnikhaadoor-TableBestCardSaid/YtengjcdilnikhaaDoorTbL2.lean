/-
  Walk of the law TableWithin.
-/
import Derived.Test.YtengjcdilnikhaaDoorTbL1
import Derived.Test.YtengjcdilnikhaaDoorTbWi
import Derived.Test.YtengjcdilnikhaaDoorTbW7
namespace Go.Proofs.YtengjcdilnikhaaDoor
set_option linter.unusedSimpArgs false
set_option linter.unusedVariables false
set_option linter.unnecessarySimpa false
open Go Am
set_option maxRecDepth 100000

theorem withR_bad {l : List Fl} {d : S} (h : (withR l d).2 ≠ 0) : (withR l d).1 = [] := by
  unfold withR at h ⊢
  split
  · rfl
  · rename_i h1; rw [if_neg h1] at h; exact absurd rfl h
theorem withR_zero {l w : List Fl} {d : S} (h : withR l d = (w, 0)) : folN d = 0 ∧ checkT l = 0 ∧ w = l.filter (insF d) := by
  unfold withR at h
  split at h
  · exact absurd (Prod.mk.inj h).2 (show ¬ (1 : Int) = 0 by decide)
  · rename_i h1
    rw [not_or] at h1
    exact ⟨by simpa using h1.1, by simpa using h1.2, (Prod.mk.inj h).1.symm⟩
theorem withR_all {l : List Fl} (h : checkT l = 0) : withR l [] = (l, 0) := by
  unfold withR
  rw [if_neg (by simp [h, folN])]
  have : l.filter (insF []) = l := List.filter_eq_self.2 (fun f hf => by
    unfold insF
    rw [withinN_ok (.inl rfl) (chkN_zero.1 (mayF_chk (tabF_may (checkT_zero.1 h).2 f hf)))]
    simp)
  rw [this]
theorem tabF_lt {q : Option S} : ∀ {l : List Fl}, tabF q l = true → ∀ (i j : Nat) (hi : i < j) (hj : j < l.length), cK (l[i]'(by omega)).name (l[j]'hj).name < 0
  | [], _, i, j, _, hj => by simp at hj
  | x :: l, h, i, j, hi, hj => by
    obtain ⟨_, _, h3⟩ := tabF_cons.1 h
    match i, j with
    | 0, j + 1 => exact tabF_gt h3 _ (List.getElem_mem (by simp at hj; omega))
    | i + 1, j + 1 => exact tabF_lt h3 i j (by omega) (by simp at hj; omega)
    | _, 0 => omega
theorem ins_mid {l : List Fl} {d : S} (ht : checkT l = 0) (hd : folN d = 0) {i j k : Nat} (hij : i < j) (hjk : j < k) (hk : k < l.length) (h1 : insF d (l[i]'(by omega)) = true) (h3 : insF d (l[k]'hk) = true) : insF d (l[j]'(by omega)) = true := by
  have htab := (checkT_zero.1 ht).2
  have hm := tabF_may htab
  have a := within_zero hd (hm _ (List.getElem_mem (show i < l.length by omega)))
  have b := within_zero hd (hm _ (List.getElem_mem (show j < l.length by omega)))
  have c := within_zero hd (hm _ (List.getElem_mem hk))
  have ca := chkN_zero.1 (mayF_chk (hm _ (List.getElem_mem (show i < l.length by omega))))
  have cb := chkN_zero.1 (mayF_chk (hm _ (List.getElem_mem (show j < l.length by omega))))
  have cc := chkN_zero.1 (mayF_chk (hm _ (List.getElem_mem hk)))
  have l1 := tabF_lt htab i j hij (by omega)
  have l2 := tabF_lt htab j k hjk hk
  refine together_mid (dir := d) (a := (l[i]'(by omega)).name) (c := (l[k]'hk).name) (Prod.ext h1 a) (Prod.ext h3 c) b (by rw [cmpN_ok ca cb]) (by rw [cmpN_ok cb cc]) ?_ ?_
  · rw [cmpN_ok ca cb]; exact Int.le_of_lt l1
  · rw [cmpN_ok cb cc]; exact Int.le_of_lt l2
theorem filter_at {α : Type} (f : α → Bool) (l : List α) (i : Nat) (hi : i < l.length) (hf : f l[i] = true) : ∃ h : ((l.take i).filter f).length < (l.filter f).length, (l.filter f)[((l.take i).filter f).length]'h = l[i] := by
  have e : l = l.take i ++ (l[i] :: l.drop (i + 1)) := by rw [← List.drop_eq_getElem_cons hi, List.take_append_drop]
  have e2 : l.filter f = (l.take i).filter f ++ (l[i] :: (l.drop (i + 1)).filter f) := by
    conv => lhs; rw [e]
    rw [List.filter_append, List.filter_cons, if_pos hf]
  refine ⟨by rw [e2]; simp, ?_⟩
  have : (l.filter f)[((l.take i).filter f).length]? = some l[i] := by rw [e2]; simp
  exact (List.getElem?_eq_some_iff.1 this).2

/-- those within a folder lie together: what the law has seen -/
def blkI (l : List Fl) (d : S) (i : Nat) (first : Int) (c : Nat) : Prop :=
  (c = 0 ∧ first = -1) ∨ (0 < c ∧ ∃ a e : Nat, first = (a : Int) ∧ a + c = e ∧ e ≤ i ∧ (∀ h : a < l.length, insF d (l[a]'h) = true) ∧ (e < i → ∀ h : e < l.length, insF d (l[e]'h) = false))

def twI (l w : List Fl) (d : S) (h : Heap) (b i : Nat) (st : St) : Prop :=
  ∃ first : Int, (∀ id, id < b → st.h id = h id) ∧ st.t 1 = StrV d ∧ st.t 5 = BoolV true ∧ st.t 6 = FlsV w ∧ st.t 10 = IntV first ∧ st.t 11 = IntV ((l.take i).filter (insF d)).length ∧ st.t 53 = FlsV l ∧ st.t 54 = IntV l.length ∧ st.t 55 = IntV (i : Nat) ∧ blkI l d i first ((l.take i).filter (insF d)).length

theorem TableWithin_ok (l : List Fl) (d : S) (hl : l.length ≤ maxLen) (hd : d.length ≤ maxLen) (h : Heap) (b : Nat) :
    ACalls Tryd.prog 11 [FlsV l, StrV d] h b 0 (fun r h' => r = BoolV true ∧ h' = h) := by
  refine ACalls.enter Tryd.func11 rfl (by simp [Tryd.ntmps11]) (fun ι w0 hn H => ?_)
  have hmx : maxLen ≤ 9223372036854775807 := by decide
  have hlow := H.lowCells
  have hlm : (l.map encF).length = l.length := List.length_map _
  have s1 := mkS_size d
  have fin : ∀ (t : Nat → AV) (hh : Heap) (n : Nat), t 4 = BoolV true → (∀ id, id < b → hh id = h id) → Am.Ends Tryd.prog ⟨Tryd.f11.ntmps, b, ι, h, w0, x0⟩ Tryd.f11 0 (fun r h' => r = BoolV true ∧ h' = h) ⟨t, hh, n⟩ := by
    intro t hh n ht ho
    exact Ends.pure hn H ho (r0 := BoolV true) (by rw [show Tryd.f11.results.toList = [.tmp 4] from rfl]; exact Ecf @ht) (.v _) ⟨rfl, rfl⟩
  refine Rk ?_
  refine Rg (fun E K hE hK => ?_)
  refine Us (live_ok _ _) body_34 ?_
  refine hK _ _ _ ?_; clear hE hK K E
  refine AWP.seq ?_
  cases c1 : fewT l
  · refine Rg (fun E K hE hK => ?_)
    refine Us (fewT_ok l (by omega) _ _) body_41 ?_
    refine Evf @c1 ?_
    refine hK _ _ _ ?_; clear hE hK K E
    refine Bt ?_
    refine Rk ?_
    refine AWP.ret ?_
    refine Ev ?_
    exact fin _ _ _ (by exact Er) (fun _ _ => rfl)
  by_cases c2 : (200 : Int) < d.length
  · refine Rg (fun E K hE hK => ?_)
    refine Us (fewT_ok l (by omega) _ _) body_41 ?_
    refine Evf (jn3 @c1 @s1 @c2) ?_
    refine hK _ _ _ ?_; clear hE hK K E
    refine Bt ?_
    refine Rk ?_
    refine AWP.ret ?_
    refine Ev ?_
    exact fin _ _ _ (by exact Er) (fun _ _ => rfl)
  refine Rg (fun E K hE hK => ?_)
  refine Us (fewT_ok l (by omega) _ _) body_41 ?_
  refine Evf (jn3 @c1 @s1 @c2) ?_
  refine hK _ _ _ ?_; clear hE hK K E
  refine Bs ?_
  have hl3 : l.length ≤ 300 := by
    unfold fewT at c1
    simp only [Bool.and_eq_true, Bool.or_eq_true, decide_eq_true_eq] at c1
    omega
  obtain ⟨w, e1, hw⟩ : ∃ w e1, withR l d = (w, e1) := ⟨_, _, rfl⟩
  obtain ⟨w1, e2, hw2⟩ : ∃ w1 e2, withR l [] = (w1, e2) := ⟨_, _, rfl⟩
  have c0 : ∀ b' : Nat, ACalls Tryd.prog 43 [FlsV l, .one (.p (.v (.string ⟨#[]⟩)))] h b' 0 (fun r h' => r = .tup [FlsV w1, IntV e2] ∧ h' = h) := by
    intro b'
    have c := tWithin_ok l [] (by omega) h b'
    rw [hw2] at c
    exact c
  refine Rg (fun E K hE hK => ?_)
  refine Us (tWithin_ok l d (by omega) _ _) body_43 ?_
  refine Evf @hw ?_
  refine hK _ _ _ ?_; clear hE hK K E
  refine Rg (fun E K hE hK => ?_)
  refine Us (c0 _) body_43 ?_
  refine hK _ _ _ ?_; clear hE hK K E
  refine AWP.seq ?_
  by_cases b1 : e1 = 0
  case neg =>
    have hb := withR_bad (l := l) (d := d) (by rw [hw]; exact b1)
    rw [hw] at hb
    simp only at hb
    subst hb
    refine Rkf @b1 ?_
    refine Bt ?_
    refine Rkf (show ((0 : Nat) : Int) = 0 from rfl) ?_
    refine AWP.ret ?_
    refine Ev ?_
    exact fin _ _ _ (by exact Er) (fun _ _ => rfl)
  subst b1
  obtain ⟨hfd, hck, hwe⟩ := withR_zero hw
  rw [withR_all hck] at hw2
  obtain ⟨rfl, rfl⟩ := Prod.mk.inj hw2
  have hmay := tabF_may (checkT_zero.1 hck).2
  have hwl : w.length ≤ l.length := by rw [hwe]; exact List.length_filter_le _ _
  have hlw : (w.map encF).length = w.length := List.length_map _
  refine Rk ?_
  refine Bs ?_
  refine AWP.seq ?_
  refine Rg (fun E K hE hK => ?_)
  refine Us (tSame_ok l (by omega) _ _) body_42 ?_
  refine hK _ _ _ ?_; clear hE hK K E
  refine Bs ?_
  refine Rk ?_
  refine Rk ?_
  refine AWP.seq ?_
  refine Rkf @hlm ?_
  refine AWP.block ?_
  refine AWP.loopM 0 (fun m st => ∃ i, i ≤ l.length ∧ m = l.length - i ∧ twI l w d h b i st) l.length rfl ⟨0, Nat.zero_le _, rfl, -1, fun _ _ => rfl, by exact Er, by exact Er, by exact Er, by exact Er, by exact Er, by exact Er, by exact Er, by exact Er, .inl ⟨rfl, rfl⟩⟩ ?_
  rintro m ⟨t, hh, n⟩ ⟨i, hi, rfl, first, ho, e1, e5, e6, e10, e11, e53, e54, e55, hbk⟩ hn1
  simp only at ho e1 e5 e6 e10 e11 e53 e54 e55 hn1
  subst hn1
  refine Rkf (jn2 @e54 @e55) ?_
  refine AWP.seq ?_
  by_cases hlt : (i : Int) < l.length
  · have hw1 : IntKind.i64.wrap ((i : Int) + 1) = ((i + 1 : Nat) : Int) := by rw [wrap_i64 (by omega) (by omega)]; rfl
    have hi2 : i < l.length := by omega
    have hge := encF_getD l i hi2
    have htk : (l.take (i + 1)).filter (insF d) = (l.take i).filter (insF d) ++ (if insF d l[i] = true then [l[i]] else []) := by
      rw [List.take_add_one, List.filter_append, List.getElem?_eq_getElem hi2]
      cases hq : insF d l[i] <;> simp [hq]
    have hat := filter_at (insF d) l i hi2
    rw [← hwe] at hat
    have hmid := fun (a e : Nat) (h1 : a < e) (h2 : e < i) => ins_mid (d := d) hck hfd h1 h2 hi2
    have hfl : ((l.take i).filter (insF d)).length ≤ 300 := Nat.le_trans (List.length_filter_le _ _) (by rw [List.length_take]; omega)
    obtain ⟨f, hf⟩ : ∃ f, l[i] = f := ⟨_, rfl⟩
    have hfm : f ∈ l := by rw [← hf]; exact List.getElem_mem hi2
    rw [hf] at hge htk hat hmid
    have hwz := within_zero hfd (hmay f hfm)
    obtain ⟨inn, er, hie⟩ : ∃ inn er, withinN d f.name = (inn, er) := ⟨_, _, rfl⟩
    rw [hie] at hwz
    simp only at hwz
    subst hwz
    have hins : insF d f = inn := by unfold insF; rw [hie]
    rw [hins] at htk hat hmid
    obtain ⟨c, hc⟩ : ∃ c, ((l.take i).filter (insF d)).length = c := ⟨_, rfl⟩
    have hc2 : ((l.take (i + 1)).filter (insF d)).length = c + (if inn = true then 1 else 0) := by
      rw [htk, List.length_append, hc]; split <;> rfl
    rw [hc] at e11 hbk hat hfl
    refine Btf @hlt ?_
    refine AWP.skip ?_
    refine Ev ?_
    refine AWP.seq ?_
    refine AWP.block ?_
    refine Rgf (jn5 @e53 @e55 @hlm @hlt @hge) (fun E K hE hK => ?_)
    refine ⟨by omega, ?_⟩
    refine hK _ _ _ ?_; clear hE hK K E
    cases inn
    · rw [if_neg (by decide), Nat.add_zero] at hc2
      refine Rgf @e1 (fun E K hE hK => ?_)
      refine Us (Within_ok (mkS d) (mkS f.name) _ _) body_44 ?_
      refine Evf (jn2 @mkS_list @hie) ?_
      refine hK _ _ _ ?_; clear hE hK K E
      refine AWP.seq ?_
      refine Rk ?_
      refine Bs ?_
      refine AWP.seq ?_
      refine Rk ?_
      refine Bt ?_
      refine AWP.exit ?_
      refine Ev ?_
      refine Raf (jn2 @e55 @hw1) (fun E K hE hK => ?_); refine hK _ _ _ ?_; clear hE hK K E
      refine ⟨l.length - (i + 1), by omega, i + 1, by omega, rfl, first, cutH_outer (Nat.le_refl _) (Ouf @ho) hlow, by exact Ecf @e1, by exact Ecf @e5, by exact Ecf @e6, by exact Ecf @e10, by rw [hc2]; exact Ecf @e11, by exact Ecf @e53, by exact Ecf @e54, by exact Er, ?_⟩
      rw [hc2]
      rcases hbk with hbk | ⟨q1, a, e, q2, q3, q4, q5, q6⟩
      · exact .inl hbk
      · refine .inr ⟨q1, a, e, q2, q3, by omega, q5, fun he hel => ?_⟩
        by_cases hei : e < i
        · exact q6 hei hel
        · have : e = i := by omega
          subst this
          rw [hf]; exact hins
    · rw [if_pos rfl] at hc2
      obtain ⟨hcw, hcf⟩ := hat rfl
      have hgw := encF_getD w c hcw
      rw [hcf] at hgw
      -- the first of them, from now on
      obtain ⟨a, hac, hfa, ha⟩ : ∃ a : Nat, a + c = i ∧ (if first < 0 then (i : Int) else first) = (a : Int) ∧ ∀ h : a < l.length, insF d (l[a]'h) = true := by
        rcases hbk with ⟨q1, q2⟩ | ⟨q1, a, e, q2, q3, q4, q5, q6⟩
        · refine ⟨i, by omega, by rw [q2, if_pos (by decide)], fun hx => by rw [hf]; exact hins⟩
        · refine ⟨a, ?_, by rw [q2, if_neg (by omega)], q5⟩
          by_cases hei : e < i
          · have h1 := hmid a e (by omega) hei (q5 (by omega)) (by rfl)
            rw [q6 hei (by omega)] at h1; cases h1
          · omega
      have hwa : IntKind.i64.wrap ((a : Int) + c) = (i : Int) := by rw [wrap_i64 (by omega) (by omega)]; omega
      have hwc : IntKind.i64.wrap ((c : Int) + 1) = ((c + 1 : Nat) : Int) := by rw [wrap_i64 (by omega) (by omega)]; rfl
      have hnc : ¬ (w.length : Int) ≤ (c : Int) := by omega
      have hcl : (c : Int) < w.length := by omega
      refine Rgf @e1 (fun E K hE hK => ?_)
      refine Us (Within_ok (mkS d) (mkS f.name) _ _) body_44 ?_
      refine Evf (jn2 @mkS_list @hie) ?_
      refine hK _ _ _ ?_; clear hE hK K E
      refine AWP.seq ?_
      refine Rk ?_
      refine Bs ?_
      refine AWP.seq ?_
      refine Rk ?_
      refine Bs ?_
      refine AWP.mid (fun s' => s'.n = 1 ∧ s'.h = upd hh b ⟨0, (encF f).map .p⟩ ∧ s'.t 1 = StrV d ∧ s'.t 5 = BoolV true ∧ s'.t 6 = FlsV w ∧ s'.t 10 = IntV (a : Nat) ∧ s'.t 11 = IntV c ∧ s'.t 12 = IntV (i : Nat) ∧ s'.t 13 = .one (.ptr b 0 0) ∧ s'.t 53 = FlsV l ∧ s'.t 54 = IntV l.length ∧ s'.t 55 = IntV (i : Nat)) ?_ ?_
      · by_cases hneg : first < 0
        · rw [if_pos hneg] at hfa
          have hfa' : (a : Int) = i := hfa.symm
          refine Rkf (jn2 @e10 @hneg) ?_
          refine Bt ?_
          refine Ra (fun E K hE hK => ?_); refine hK _ _ _ ?_; clear hE hK K E
          exact ⟨by exact Er, by exact Er, by exact Ecf @e1, by exact Ecf @e5, by exact Ecf @e6, by rw [hfa']; exact Er, by exact Ecf @e11, by exact Er, by exact Er, by exact Ecf @e53, by exact Ecf @e54, by exact Ecf @e55⟩
        · rw [if_neg hneg] at hfa
          refine Rkf (jn2 @e10 @hneg) ?_
          refine Bf ?_
          exact AWP.skip ⟨by exact Er, by exact Er, by exact Ecf @e1, by exact Ecf @e5, by exact Ecf @e6, by rw [← hfa]; exact Ecf @e10, by exact Ecf @e11, by exact Er, by exact Er, by exact Ecf @e53, by exact Ecf @e54, by exact Ecf @e55⟩
      rintro ⟨t', h2, n2⟩ ⟨q0, q1, g1, g5, g6, g10, g11, g12, g13, g53, g54, g55⟩
      simp only at q0 q1 g1 g5 g6 g10 g11 g12 g13 g53 g54 g55
      subst q0 q1
      refine AWP.seq ?_
      refine AWP.seqRegDG [] [] [] mixed (drawF_ok (by kernel_rfl)) (by kernel_rfl) (fun K hK => ?_); simp -implicitDefEqProofs only [go_sem, ↓reduceIte, Nat.reduceEqDiff, Nat.reduceAdd, Nat.reduceLT, Nat.reduceLeDiff, reduceCtorEq, Int.toNat_natCast, g10, g11, g12, hwa, eq_self, decide_true]
      repeat (first | (refine Gdf 79 (jn7 @g6 @g11 @g13 @hlw @hnc @hcl @hgw) ?_) | (refine Gdf 85 (jn7 @g6 @g11 @g13 @hlw @hnc @hcl @hgw) ?_) | (refine ⟨by omega, ?_⟩))
      refine Ud (rOne_ok f _ _) body_45 ?_
      repeat (first | (refine Gd 79 ?_) | (refine Gd 85 ?_))
      refine hK _ _ _ ?_; clear hK K
      refine Bs ?_
      refine Raf (jn2 @g11 @hwc) (fun E K hE hK => ?_); refine hK _ _ _ ?_; clear hE hK K E
      refine Ev ?_
      refine Raf (jn2 @g55 @hw1) (fun E K hE hK => ?_); refine hK _ _ _ ?_; clear hE hK K E
      refine ⟨l.length - (i + 1), by omega, i + 1, by omega, rfl, (a : Int), cutH_outer (Nat.le_refl _) (Ouf @ho) hlow, by exact Ecf @g1, by exact Ecf @g5, by exact Ecf @g6, by exact Ecf @g10, by rw [hc2]; exact Er, by exact Ecf @g53, by exact Ecf @g54, by exact Er, ?_⟩
      rw [hc2]
      exact .inr ⟨by omega, a, i + 1, rfl, by omega, Nat.le_refl _, ha, fun e => absurd e (by omega)⟩
  · refine Bff @hlt ?_
    refine AWP.exit ?_
    refine Ev ?_
    have hil : i = l.length := by omega
    subst hil
    rw [List.take_length, ← hwe] at e11
    refine Rkf (jn4 @e5 @e6 @e11 @hlw) ?_
    refine AWP.ret ?_
    exact fin _ _ _ (by exact Er) ho

end Go.Proofs.YtengjcdilnikhaaDoor
