/-
 Part 7 of the proof of stageTells_card: steps of the machine, walks and plain laws; each holds under the conditions that it states.
-/
import Derived.Test.YtihgnpboabpchaaGreatDoorTells6
namespace Go.Proofs.YtihgnpboabpchaaGreatDoor
set_option linter.unusedSimpArgs false
set_option linter.unusedVariables false
set_option linter.unnecessarySimpa false
open Go Am
set_option maxRecDepth 100000
theorem foldQ_len : ∀ (l acc : List S), (l.foldl putQ acc).length ≤ acc.length + l.length
 | [], acc => by simp
 | p :: l, acc => by
   have h1 := foldQ_len l (putQ acc p)
   have h2 : (putQ acc p).length ≤ acc.length + 1 := set_len
   rw [List.foldl_cons, List.length_cons]; omega
theorem foldQ_sz {l acc : List S} (h1 : ∀ p ∈ l, p.length ≤ 1000) (h2 : ∀ p ∈ acc, p.length ≤ 1000) : ∀ p ∈ l.foldl putQ acc, p.length ≤ 1000 := by
 induction l generalizing acc with
 | nil => exact h2
 | cons q l ih =>
   refine ih (fun p hp => h1 p (List.mem_cons_of_mem _ hp)) (fun p hp => ?_)
   rcases putQ_mem.1 hp with rfl | hp
   ·exact h1 _ (List.mem_cons_self ..)
   ·exact h2 p hp
theorem fold_snoc (l : List S) (p : S) : (l ++ [p]).foldl putQ [] = putQ (l.foldl putQ []) p := by rw [List.foldl_append]; rfl
theorem allN_sz {s : Sg} (z : RfS s) : ∀ p ∈ allN s, p.length ≤ 1000 := fun p hp => by
 rcases List.mem_append.1 hp with hp | hp
 ·obtain ⟨f, hf, rfl⟩ := List.mem_map.1 hp; exact z.tn f hf
 ·obtain ⟨f, hf, rfl⟩ := List.mem_map.1 hp; exact z.en f hf
structure NmS (s : Sg) (h : Heap) (b : Nat) (st : St) : Prop where
 ho : ∀ id, id < b → st.h id = h id
 hb : st.h b = some ⟨0, (encSg s).map .p⟩
 e1 : st.t 1 = .one (.ptr b 0 0)
theorem NmS.cut {s : Sg} {h : Heap} {b n : Nat} {st : St} (C : Ctx) (hC : C.b = b) (hn : 0 < n) (hlow : ∀ id blk, h id = some blk → ∀ c ∈ blk.cells, lowC b c = true) (k : NmS s h b st) : NmS s h b (st.cut C n) := by
 subst hC
 obtain ⟨t, hh, m⟩ := st
 obtain ⟨h1, h2, h3⟩ := k
 simp only at h1 h2 h3
 refine ⟨cutH_outer (by omega) h1 hlow, cutH_same (by omega) h2 (show lowCs _ ((encSg s).map Cell.p) = true from lowCs_p _ _), ?_⟩
 show cutV _ (t 1) = _; rw [h3]; exact cutV_ptr (by omega)
theorem rNames_ok (s : Sg) (z : RfS s) (hc : checkT s.t = 0) (h : Heap) (b : Nat) : ACalls Tryz.prog 73 [SgV s] h b 0 (fun r h' => r = ListV (namR s) ∧ h' = h) := by
 refine ACalls.enter Tryz.func73 rfl (by simp [Tryz.ntmps73]) (fun ι w hn H => ?_)
 have hlow := H.lowCells
 have hlm : (s.ed.map encEd).length = s.ed.length := List.length_map _
 have htl : (s.t.map encF).length = s.t.length := List.length_map _
 have hzt := z.t
 have hze := z.ed
 refine Rk ?_
 refine Rk ?_
 refine AWP.frzNil 3 1 (by exact Er) ?_
 refine AWP.mid (fun st => st.n = 1 ∧ NmS s h b st ∧ st.t 3 = ListV ((s.t.map Fl.name).foldl putQ [])) ?_ ?_
 ·refine Rkf @htl ?_
  refine AWP.block ?_
  refine AWP.loopUp 1 s.t.length (fun i st => NmS s h b st ∧ st.t 3 = ListV (((s.t.take i).map Fl.name).foldl putQ []) ∧ st.t 12 = FlsV s.t ∧ st.t 13 = IntV s.t.length ∧ st.t 14 = IntV (i : Nat)) 0 (Nat.zero_le _) rfl ⟨⟨Ou, by exact Er, by exact Er⟩, by exact Er, by exact Er, by exact Er, by exact Er⟩ ?_
  rintro i ⟨t, hh, n⟩ hi ⟨⟨ho, hb, e1⟩, e3, e12, e13, e14⟩ hn1
  simp only at ho hb e1 e3 e12 e13 e14 hn1
  subst hn1
  refine Rkf (jn2 @e13 @e14) ?_
  refine AWP.seq ?_
  by_cases hlt : (i : Int) < s.t.length
  ·have hi2 : i < s.t.length := by omega
   have hw1 : IntKind.i64.wrap ((i : Int) + 1) = ((i + 1 : Nat) : Int) := by rw [wrap_i64 (by omega) (by omega)]; rfl
   have hge := encF_getD s.t i hi2
   obtain ⟨f, hf⟩ : ∃ f, s.t[i] = f := ⟨_, rfl⟩
   have hfn : f.name.length ≤ 1000 := z.tn f (by rw [← hf]; exact List.getElem_mem hi2)
   rw [hf] at hge
   have htk : ((s.t.take (i + 1)).map Fl.name).foldl putQ [] = putQ (((s.t.take i).map Fl.name).foldl putQ []) f.name := by
    rw [← fold_snoc, List.take_add_one, List.getElem?_eq_getElem hi2, hf, List.map_append]; rfl
   have hal : (((s.t.take i).map Fl.name).foldl putQ []).length ≤ 2000 := by
    have := foldQ_len ((s.t.take i).map Fl.name) []
    rw [List.length_map, List.length_take] at this
    simp only [List.length_nil] at this; omega
   have has : ∀ p ∈ ((s.t.take i).map Fl.name).foldl putQ [], p.length ≤ 1000 := foldQ_sz (fun p hp => by
    obtain ⟨g, hg, rfl⟩ := List.mem_map.1 hp
    exact z.tn g (List.mem_of_mem_take hg)) (fun p hp => by simp at hp)
   generalize ((s.t.take i).map Fl.name).foldl putQ [] = a at e3 htk hal has
   refine Btf @hlt ?_
   refine AWP.skip ?_
   refine Ev ?_
   refine AWP.seq ?_
   refine AWP.block ?_
   refine AWP.seqReg (by kernel_rfl) (fun E K hE hK => ?_); simp -implicitDefEqProofs only [go_sem, ↓reduceIte, Nat.reduceEqDiff, Nat.reduceAdd, Nat.reduceLT, Nat.reduceLeDiff, reduceCtorEq, Int.toNat_natCast, e12, e14, htl, hlt, hge, encF]
   refine ⟨by omega, ?_⟩
   refine hK _ _ _ ?_; clear hE hK K E
   refine Raf @e3 (fun E K hE hK => ?_)
   refine Us (rwith_ok a f.name (by omega) has hfn _ _) body_72 ?_
   refine hK _ _ _ ?_; clear hE hK K E
   refine Raf (jn2 @e14 @hw1) (fun E K hE hK => ?_); refine hK _ _ _ ?_; clear hE hK K E
   exact ⟨(by decide : 1 ≤ 2), hi2, NmS.cut ⟨_, b, ι, h, w, x0⟩ rfl (by decide) hlow ⟨(Ouf @ho), by exact Erf @hb, by exact Ecf @e1⟩, by rw [htk]; exact Er, by exact Ecf @e12, by exact Ecf @e13, by exact Er⟩
  ·have hie : i = s.t.length := by omega
   subst hie
   rw [List.take_length] at e3
   refine Bff @hlt ?_
   refine AWP.exit ?_
   refine Ev ?_
   exact ⟨⟨ho, hb, e1⟩, e3⟩
 rintro ⟨t, hh, n⟩ ⟨rfl, ⟨ho, hb, e1⟩, e3⟩
 simp only at ho hb e1 e3
 refine AWP.mid (fun st => st.n = 1 ∧ NmS s h b st ∧ st.t 3 = ListV ((allN s).foldl putQ [])) ?_ ?_
 ·refine AWP.seqReg (by kernel_rfl) (fun E K hE hK => ?_); simp -implicitDefEqProofs only [go_sem, ↓reduceIte, Nat.reduceEqDiff, Nat.reduceAdd, Nat.reduceLT, Nat.reduceLeDiff, reduceCtorEq, Int.toNat_natCast, e1, hb, hlm, encSg]; refine hK _ _ _ ?_; clear hE hK K E
  refine AWP.block ?_
  refine AWP.loopUp 1 s.ed.length (fun i st => NmS s h b st ∧ st.t 3 = ListV ((s.t.map Fl.name ++ (s.ed.take i).map Ed.name).foldl putQ []) ∧ st.t 24 = EdsV s.ed ∧ st.t 25 = IntV s.ed.length ∧ st.t 26 = IntV (i : Nat)) 0 (Nat.zero_le _) rfl ⟨⟨ho, hb, by exact Erf @e1⟩, by rw [List.take_zero, List.map_nil, List.append_nil]; exact Erf @e3, by exact Er, by exact Er, by exact Er⟩ ?_
  clear ho hb e1 e3
  rintro i ⟨t, hh, n⟩ hi ⟨⟨ho, hb, e1⟩, e3, e12, e13, e14⟩ hn1
  simp only at ho hb e1 e3 e12 e13 e14 hn1
  subst hn1
  refine Rkf (jn2 @e13 @e14) ?_
  refine AWP.seq ?_
  by_cases hlt : (i : Int) < s.ed.length
  ·have hi2 : i < s.ed.length := by omega
   have hw1 : IntKind.i64.wrap ((i : Int) + 1) = ((i + 1 : Nat) : Int) := by rw [wrap_i64 (by omega) (by omega)]; rfl
   have hge := encEd_getD s.ed i hi2
   obtain ⟨f, hf⟩ : ∃ f, s.ed[i] = f := ⟨_, rfl⟩
   have hfn : f.name.length ≤ 1000 := z.en f (by rw [← hf]; exact List.getElem_mem hi2)
   rw [hf] at hge
   have htk : (s.t.map Fl.name ++ (s.ed.take (i + 1)).map Ed.name).foldl putQ [] = putQ ((s.t.map Fl.name ++ (s.ed.take i).map Ed.name).foldl putQ []) f.name := by
    rw [← fold_snoc, List.take_add_one, List.getElem?_eq_getElem hi2, hf, List.map_append, ← List.append_assoc]; rfl
   have hal : ((s.t.map Fl.name ++ (s.ed.take i).map Ed.name).foldl putQ []).length ≤ 4000 := by
    have := foldQ_len (s.t.map Fl.name ++ (s.ed.take i).map Ed.name) []
    rw [List.length_append, List.length_map, List.length_map, List.length_take] at this
    simp only [List.length_nil] at this; omega
   have has : ∀ p ∈ (s.t.map Fl.name ++ (s.ed.take i).map Ed.name).foldl putQ [], p.length ≤ 1000 := foldQ_sz (fun p hp => by
    rcases List.mem_append.1 hp with hp | hp
    ·obtain ⟨g, hg, rfl⟩ := List.mem_map.1 hp
     exact z.tn g hg
    ·obtain ⟨g, hg, rfl⟩ := List.mem_map.1 hp
     exact z.en g (List.mem_of_mem_take hg)) (fun p hp => by simp at hp)
   generalize (s.t.map Fl.name ++ (s.ed.take i).map Ed.name).foldl putQ [] = a at e3 htk hal has
   refine Btf @hlt ?_
   refine AWP.skip ?_
   refine Ev ?_
   refine AWP.seq ?_
   refine AWP.block ?_
   refine AWP.seqReg (by kernel_rfl) (fun E K hE hK => ?_); simp -implicitDefEqProofs only [go_sem, ↓reduceIte, Nat.reduceEqDiff, Nat.reduceAdd, Nat.reduceLT, Nat.reduceLeDiff, reduceCtorEq, Int.toNat_natCast, e12, e14, hlm, hlt, hge, encEd]
   refine ⟨by omega, ?_⟩
   refine hK _ _ _ ?_; clear hE hK K E
   refine Raf @e3 (fun E K hE hK => ?_)
   refine Us (rwith_ok a f.name (by omega) has hfn _ _) body_72 ?_
   refine hK _ _ _ ?_; clear hE hK K E
   refine Raf (jn2 @e14 @hw1) (fun E K hE hK => ?_); refine hK _ _ _ ?_; clear hE hK K E
   exact ⟨(by decide : 1 ≤ 2), hi2, NmS.cut ⟨_, b, ι, h, w, x0⟩ rfl (by decide) hlow ⟨(Ouf @ho), by exact Erf @hb, by exact Ecf @e1⟩, by rw [htk]; exact Er, by exact Ecf @e12, by exact Ecf @e13, by exact Er⟩
  ·have hie : i = s.ed.length := by omega
   subst hie
   rw [List.take_length] at e3
   refine Bff @hlt ?_
   refine AWP.exit ?_
   refine Ev ?_
   exact ⟨⟨ho, hb, e1⟩, e3⟩
 clear ho hb e1 e3 t hh
 rintro ⟨t, hh, n⟩ ⟨rfl, ⟨ho, hb, e1⟩, e3⟩
 simp only at ho hb e1 e3
 have hal : ((allN s).foldl putQ []).length ≤ 4000 := by
  have := foldQ_len (allN s) []
  unfold allN at this ⊢
  rw [List.length_append, List.length_map, List.length_map] at this
  simp only [List.length_nil] at this; omega
 obtain ⟨a, ha⟩ : ∃ a, (allN s).foldl putQ [] = a := ⟨_, rfl⟩
 have hnr : namR s = a.filter (fun p => !(whatS s p).gone) := by unfold namR; rw [ha]
 rw [ha] at e3 hal
 rw [hnr]
 have hlma : (a.map encS).length = a.length := List.length_map _
 refine Rk ?_
 refine AWP.virt 8 (by exact Er) ?_
 refine Ev ?_
 have hb2 : ∀ B, (upd hh (b + 1) B) b = some ⟨0, (encSg s).map .p⟩ := fun B => (upd_ne _ _ _ _ (by omega)).trans hb
 refine AWP.mid (fun st => ∃ ver cap, NmS s h b st ∧ RowAt st.h (b + 1) ver cap 1 ((a.filter (fun p => !(whatS s p).gone)).map encS) ∧ st.t 8 = .one (.win (b + 1) ver 0 (a.filter (fun p => !(whatS s p).gone)).length cap)) ?_ ?_
 ·refine Rkf (jn2 @e3 @hlma) ?_
  refine AWP.block ?_
  refine AWP.loopM 2 (fun m st => ∃ i, i ≤ a.length ∧ m = a.length - i ∧ NmS s h b st ∧ (∃ ver cap, RowAt st.h (b + 1) ver cap 1 (((a.take i).filter (fun p => !(whatS s p).gone)).map encS) ∧ st.t 8 = .one (.win (b + 1) ver 0 ((a.take i).filter (fun p => !(whatS s p).gone)).length cap)) ∧ st.t 35 = ListV a ∧ st.t 36 = IntV a.length ∧ st.t 37 = IntV (i : Nat)) a.length rfl ⟨0, Nat.zero_le _, rfl, ⟨(Ouf @ho), hb2 _, by exact Erf @e1⟩, ⟨0, 0, RowAt.nil, by exact Er⟩, by exact Er, by exact Er, by exact Er⟩ ?_
  clear ho hb e1 e3 hb2
  rintro m ⟨t, hh, n⟩ ⟨i, hi, rfl, ⟨ho, hb, e1⟩, ⟨ver, cap, hr, e8⟩, e35, e36, e37⟩ hn1
  simp only at ho hb e1 hr e8 e35 e36 e37 hn1
  subst hn1
  refine Rkf (jn2 @e36 @e37) ?_
  refine AWP.seq ?_
  by_cases hlt : (i : Int) < a.length
  ·have hi2 : i < a.length := by omega
   have hw1 : IntKind.i64.wrap ((i : Int) + 1) = ((i + 1 : Nat) : Int) := by rw [wrap_i64 (by omega) (by omega)]; rfl
   have hge : (a.map encS).getD i [] = encS a[i] := getD_map encS a i hi2
   have htk : (a.take (i + 1)).filter (fun p => !(whatS s p).gone) = (a.take i).filter (fun p => !(whatS s p).gone) ++ (if (!(whatS s a[i]).gone) = true then [a[i]] else []) := by
    rw [List.take_add_one, List.filter_append, List.getElem?_eq_getElem hi2]
    cases hq : (!(whatS s a[i]).gone) <;> simp [hq] <;> simpa using hq
   have hfl : ((a.take i).filter (fun p => !(whatS s p).gone)).length ≤ 4000 := Nat.le_trans (List.length_filter_le _ _) (by rw [List.length_take]; omega)
   obtain ⟨p, hp⟩ : ∃ p, a[i] = p := ⟨_, rfl⟩
   rw [hp] at hge htk
   generalize (a.take i).filter (fun p => !(whatS s p).gone) = m at hr e8 htk hfl
   have kw := rWhat_ok s p (by omega) (by omega) hc
   obtain ⟨y, hy⟩ : ∃ y, whatS s p = y := ⟨_, rfl⟩
   rw [hy] at kw htk
   refine Btf @hlt ?_
   refine AWP.skip ?_
   refine Ev ?_
   refine AWP.seq ?_
   refine AWP.block ?_
   refine AWP.seqReg (by kernel_rfl) (fun E K hE hK => ?_); simp -implicitDefEqProofs only [go_sem, ↓reduceIte, Nat.reduceEqDiff, Nat.reduceAdd, Nat.reduceLT, Nat.reduceLeDiff, reduceCtorEq, Int.toNat_natCast, e35, e37, hlma, hlt, hge, encS]
   refine ⟨by omega, ?_⟩
   refine hK _ _ _ ?_; clear hE hK K E
   cases hg : y.gone
   ·rw [hg] at htk
    rw [if_pos (by decide)] at htk
    refine AWP.seqReg (by kernel_rfl) (fun E K hE hK => ?_); simp -implicitDefEqProofs only [go_sem, ↓reduceIte, Nat.reduceEqDiff, Nat.reduceAdd, Nat.reduceLT, Nat.reduceLeDiff, reduceCtorEq, Int.toNat_natCast, e1, hb, encSg]
    refine Us (kw _ _) body_62 ?_
    simp -implicitDefEqProofs only [go_sem, ↓reduceIte, Nat.reduceEqDiff, Nat.reduceAdd, Nat.reduceLT, Nat.reduceLeDiff, reduceCtorEq, Int.toNat_natCast, EdV, encEd, hg]
    refine hK _ _ _ ?_; clear hE hK K E
    refine Bt ?_
    refine Raf @e8 (fun E K hE hK => ?_)
    refine BiR.of ?_
    refine app_st (m := 1) (fs := [encS p]) (hr.ne (by omega)) (okEs_n _) (okEs_n [p]) (srcA_row (sz := 1) (m := 1) (es := [encS p]) (T := []) 0 (upd_same _ _ _) (okEs_n [p]) (by simp) (.inl rfl)) (by rw [List.length_map]) rfl (by omega) (fun cap' T' q1 q2 => ?_)
    refine Ev ?_
    refine hK _ _ _ ?_; clear hE hK K E
    refine Ev ?_
    refine Raf (jn2 @e37 @hw1) (fun E K hE hK => ?_); refine hK _ _ _ ?_; clear hE hK K E
    have hml : (m ++ [p]).length = m.length + 1 := by simp
    have hb3 : ∀ B1 B2, (upd (upd hh (b + 2) B1) (b + 1) B2) b = some ⟨0, (encSg s).map .p⟩ := fun B1 B2 => (upd_ne _ _ _ _ (by omega)).trans ((upd_ne _ _ _ _ (by omega)).trans hb)
    exact ⟨(by decide : 2 ≤ 3), a.length - (i + 1), by omega, i + 1, by omega, rfl, NmS.cut ⟨_, b, ι, h, w, x0⟩ rfl (by decide) hlow ⟨(Ouf @ho), hb3 _ _, by exact Ecf @e1⟩, ⟨ver + 1, cap', by rw [htk, List.map_append]; exact (RowAt.new q1 q2).cut (show b + 1 < b + 2 by omega), by rw [htk, hml]; refine Ev ?_; exact cutV_win (show b + 1 < b + 2 by omega)⟩, by exact Ecf @e35, by exact Ecf @e36, by exact Er⟩
   ·rw [hg] at htk
    rw [if_neg (by decide), List.append_nil] at htk
    refine AWP.seqReg (by kernel_rfl) (fun E K hE hK => ?_); simp -implicitDefEqProofs only [go_sem, ↓reduceIte, Nat.reduceEqDiff, Nat.reduceAdd, Nat.reduceLT, Nat.reduceLeDiff, reduceCtorEq, Int.toNat_natCast, e1, hb, encSg]
    refine Us (kw _ _) body_62 ?_
    simp -implicitDefEqProofs only [go_sem, ↓reduceIte, Nat.reduceEqDiff, Nat.reduceAdd, Nat.reduceLT, Nat.reduceLeDiff, reduceCtorEq, Int.toNat_natCast, EdV, encEd, hg]
    refine hK _ _ _ ?_; clear hE hK K E
    refine Bf ?_
    refine AWP.skip ?_
    refine Ev ?_
    refine Raf (jn2 @e37 @hw1) (fun E K hE hK => ?_); refine hK _ _ _ ?_; clear hE hK K E
    exact ⟨(by decide : 2 ≤ 2), a.length - (i + 1), by omega, i + 1, by omega, rfl, NmS.cut ⟨_, b, ι, h, w, x0⟩ rfl (by decide) hlow ⟨ho, hb, by exact Ecf @e1⟩, ⟨ver, cap, by rw [htk]; exact hr.cut (show b + 1 < b + 2 by omega), by rw [htk]; refine Evf @e8 ?_; exact cutV_win (show b + 1 < b + 2 by omega)⟩, by exact Ecf @e35, by exact Ecf @e36, by exact Er⟩
  ·have hie : i = a.length := by omega
   subst hie
   rw [List.take_length] at hr e8
   refine Bff @hlt ?_
   refine AWP.exit ?_
   refine Ev ?_
   exact ⟨ver, cap, ⟨ho, hb, e1⟩, hr, e8⟩
 clear ho hb e1 e3 hb2 t hh
 rintro ⟨t, hh, n⟩ ⟨ver, cap, ⟨ho, hb, e1⟩, hr, e8⟩
 simp only at ho hb e1 hr e8
 generalize a.filter (fun p => !(whatS s p).gone) = m at hr e8
 refine Rkf @e8 ?_
 refine AWP.frzRow 2 (by exact Er) hr (okEs_str m) (by rw [List.length_map]) ?_
 refine AWP.ret ?_
 refine Ev ?_
 exact Ends.pure hn H (fun id (hid : id < b) => by simp -implicitDefEqProofs only [go_sem, ↓reduceIte, Nat.reduceEqDiff, Nat.reduceAdd, Nat.reduceLT, Nat.reduceLeDiff, reduceCtorEq, Int.toNat_natCast, delH, show ¬ id = b + 1 by omega]; exact ho id hid) (r0 := ListV m) (by rw [show Tryz.f73.results.toList = [.tmp 2] from rfl]; exact Er) (frzV.p _) ⟨rfl, rfl⟩
theorem namR_dirs (s : Sg) (l : List S) : namR { s with dirs := l } = namR s := rfl
theorem namR_sz {s : Sg} (z : RfS s) : (namR s).length ≤ 4000 ∧ ∀ p ∈ namR s, p.length ≤ 1000 := by
 unfold namR
 refine ⟨Nat.le_trans (List.length_filter_le _ _) ?_, fun p hp => foldQ_sz (allN_sz z) (fun p hp => by simp at hp) p (List.mem_filter.1 hp).1⟩
 have := foldQ_len (allN s) []
 have h1 := z.t
 have h2 := z.ed
 unfold allN at this ⊢
 rw [List.length_append, List.length_map, List.length_map] at this
 simp only [List.length_nil] at this; omega
structure LsS (m : Sg) (dir : S) (h : Heap) (b : Nat) (st : St) : Prop where
 ho : ∀ id, id < b → st.h id = h id
 hb : st.h b = some ⟨0, (encSg m).map .p⟩
 h1 : st.h (b + 1) = some ⟨0, zSgC⟩
 e1 : st.t 1 = StrV dir
 e2 : st.t 2 = .one (.ptr b 0 0)
 e5 : st.t 5 = .one (.ptr (b + 1) 0 0)
theorem LsS.cut {s : Sg} {dir : S} {h : Heap} {b n : Nat} {st : St} (C : Ctx) (hC : C.b = b) (hn : 1 < n) (hlow : ∀ id blk, h id = some blk → ∀ c ∈ blk.cells, lowC b c = true) (k : LsS s dir h b st) : LsS s dir h b (st.cut C n) := by
 subst hC
 obtain ⟨t, hh, m⟩ := st
 obtain ⟨h1, h2, h3, h4, h5, h6⟩ := k
 simp only at h1 h2 h3 h4 h5 h6
 refine ⟨cutH_outer (by omega) h1 hlow, cutH_same (by omega) h2 (show lowCs _ ((encSg s).map Cell.p) = true from lowCs_p _ _), cutH_same (by omega) h3 rfl, ?_, ?_, ?_⟩
 ·show cutV _ (t 1) = _; rw [h4]; rfl
 ·show cutV _ (t 2) = _; rw [h5]; exact cutV_ptr (by omega)
 ·show cutV _ (t 5) = _; rw [h6]; exact cutV_ptr (by omega)
theorem rList_ok (s : Sg) (dir : S) (z : RfS s) (hd0 : s.dirs.length ≤ 999) (hd1 : dir.length ≤ 1000) (h : Heap) (b : Nat) : ACalls Tryz.prog 26 [SgV s, StrV dir] h b 0 (fun r h' => r = .tup [ListV (if (lstS keyR s dir).2 = 0 then lisF s dir else []), SgV (lstS keyR s dir).1, IntV (lstS keyR s dir).2] ∧ h' = h) := by
 refine ACalls.enter Tryz.func26 rfl (by simp [Tryz.ntmps26]) (fun ι w hn H => ?_)
 have hlow := H.lowCells
 have finB : ∀ (tt : Nat → AV) (hh : Heap) (n : Nat) (e : Int), e ≠ 0 → tt 4 = .one (.p (.v (.slice none 0 0))) → tt 5 = .one (.ptr (b + 1) 0 0) → hh (b + 1) = some ⟨0, zSgC⟩ → tt 6 = IntV e → (∀ id, id < b → hh id = h id) → (zSg, e) = lstS keyR s dir → Am.Ends Tryz.prog ⟨Tryz.f26.ntmps, b, ι, h, w, x0⟩ Tryz.f26 0 (fun r h' => r = .tup [ListV (if (lstS keyR s dir).2 = 0 then lisF s dir else []), SgV (lstS keyR s dir).1, IntV (lstS keyR s dir).2] ∧ h' = h) ⟨tt, hh, n⟩ := by
  intro tt hh n e he h4 h5 hb h6 ho hv
  exact Ends.pure hn H ho (r0 := .tup [.one (.p (.v (.slice none 0 0))), .agg zSgC, IntV e]) (by rw [show Tryz.f26.results.toList = [.tmp 4, .cell 5 63, .tmp 6] from rfl]; (first | (simp -implicitDefEqProofs only [go_sem, ↓reduceIte, Nat.reduceEqDiff, Nat.reduceAdd, Nat.reduceLT, Nat.reduceLeDiff, reduceCtorEq, Int.toNat_natCast, h4, h5, hb, h6, zSgC]; first | done | rfl) | rfl)) (frz_tup3 (.one (frz_nil 1)) frz_sg0 (.v _)) ⟨by rw [← hv, if_neg he]; rfl, rfl⟩
 have kf := rFolder_ok (mkS dir) (by rw [mkS_size]; exact hd1)
 rw [show bl (mkS dir) = dir from rfl] at kf
 have n1 : ¬ b + 1 = b := by omega
 rw [lst_eq] at finB ⊢
 refine Rk ?_
 refine AWP.seq ?_
 by_cases c1 : checkS keyR s = 0
 case neg =>
  have c1' : (checkS keyR s = 0) = False := eq_false c1
  refine AWP.seqReg (by kernel_rfl) (fun E K hE hK => ?_); simp -implicitDefEqProofs only [go_sem, ↓reduceIte, Nat.reduceEqDiff, Nat.reduceAdd, Nat.reduceLT, Nat.reduceLeDiff, reduceCtorEq, Int.toNat_natCast, encSg]
  refine Us (rCheckS_ok s z _ _) body_70 ?_
  refine Evf @c1' ?_
  refine hK _ _ _ ?_; clear hE hK K E
  refine Bt ?_
  refine Rkf @n1 ?_
  refine AWP.ret ?_
  refine Ev ?_
  exact finB _ _ _ 1 (by decide) (by exact Er) (by exact Er) (by (first | (simp -implicitDefEqProofs only [go_sem, ↓reduceIte, Nat.reduceEqDiff, Nat.reduceAdd, Nat.reduceLT, Nat.reduceLeDiff, reduceCtorEq, Int.toNat_natCast, zSgC]; first | done | rfl) | rfl)) (by exact Er) Ou (by rw [if_pos (.inl c1)])
 have c1' : (checkS keyR s = 0) = True := eq_true c1
 by_cases c2 : folN dir = 0
 case neg =>
  rw [decide_eq_false c2] at kf
  refine AWP.seqReg (by kernel_rfl) (fun E K hE hK => ?_); simp -implicitDefEqProofs only [go_sem, ↓reduceIte, Nat.reduceEqDiff, Nat.reduceAdd, Nat.reduceLT, Nat.reduceLeDiff, reduceCtorEq, Int.toNat_natCast, encSg]
  refine Us (rCheckS_ok s z _ _) body_70 ?_
  refine Evf @c1' ?_
  refine Us (kf _ _) body_71 ?_
  refine hK _ _ _ ?_; clear hE hK K E
  refine Bt ?_
  refine Rkf @n1 ?_
  refine AWP.ret ?_
  refine Ev ?_
  exact finB _ _ _ 1 (by decide) (by exact Er) (by exact Er) (by (first | (simp -implicitDefEqProofs only [go_sem, ↓reduceIte, Nat.reduceEqDiff, Nat.reduceAdd, Nat.reduceLT, Nat.reduceLeDiff, reduceCtorEq, Int.toNat_natCast, zSgC]; first | done | rfl) | rfl)) (by exact Er) Ou (by rw [if_pos (.inr c2)])
 rw [decide_eq_true c2] at kf
 rw [if_neg (show ¬ (checkS keyR s ≠ 0 ∨ folN dir ≠ 0) by rw [c1, c2]; simp)] at finB ⊢
 refine AWP.seqReg (by kernel_rfl) (fun E K hE hK => ?_); simp -implicitDefEqProofs only [go_sem, ↓reduceIte, Nat.reduceEqDiff, Nat.reduceAdd, Nat.reduceLT, Nat.reduceLeDiff, reduceCtorEq, Int.toNat_natCast, encSg]
 refine Us (rCheckS_ok s z _ _) body_70 ?_
 refine Evf @c1' ?_
 refine Us (kf _ _) body_71 ?_
 refine hK _ _ _ ?_; clear hE hK K E
 refine Bs ?_
 refine AWP.seqReg (by kernel_rfl) (fun E K hE hK => ?_); simp -implicitDefEqProofs only [go_sem, ↓reduceIte, Nat.reduceEqDiff, Nat.reduceAdd, Nat.reduceLT, Nat.reduceLeDiff, reduceCtorEq, Int.toNat_natCast, encSg]
 refine Us (rCopyS_ok s z _ _) body_22 ?_
 refine hK _ _ _ ?_; clear hE hK K E
 refine Rg (fun E K hE hK => ?_)
 refine Us (rwith_ok s.dirs dir (by have := z.dr; omega) z.dn hd1 _ _) body_72 ?_
 refine hK _ _ _ ?_; clear hE hK K E
 refine AWP.seq ?_
 obtain ⟨l, hl⟩ : ∃ l, putQ s.dirs dir = l := ⟨_, rfl⟩
 have hln : (l.map encS).length = l.length := List.length_map _
 have hlz : ∀ p ∈ l, p.length ≤ 1000 := fun p hp => by
  rw [← hl] at hp
  rcases putQ_mem.1 hp with rfl | hp
  ·exact hd1
  ·exact z.dn p hp
 have hls : l.length ≤ 1000 := by rw [← hl]; have : (putQ s.dirs dir).length ≤ s.dirs.length + 1 := set_len; have := z.dr; omega
 rw [hl] at finB ⊢
 by_cases c3 : (1024 : Int) < l.length
 ·exfalso; omega
 rw [if_neg (show ¬ 1024 < l.length by omega)] at finB ⊢
 clear finB
 simp only [if_true]
 refine Rkf (jn2 @hln @c3) ?_
 refine Bs ?_
 refine Rk ?_
 have z2 : RfS { s with dirs := l } := ⟨z.t, z.tn, z.ed, z.en, z.data, z.rk, z.nm, z.nn, hls, hlz⟩
 have kn := rNames_ok { s with dirs := l } z2 (check_iff.1 c1).t
 rw [namR_dirs] at kn
 have hlF : lisF s dir = (namR s).filter (fun p => (withinN dir p).1) := rfl
 rw [hlF]
 obtain ⟨hal, has⟩ := namR_sz z
 obtain ⟨a, ha⟩ : ∃ a, namR s = a := ⟨_, rfl⟩
 rw [ha] at kn hal has
 rw [ha]
 have hlma : (a.map encS).length = a.length := List.length_map _
 refine AWP.virt 7 (by exact Er) ?_
 refine Ev ?_
 refine AWP.mid (fun st => ∃ ver cap, LsS { s with dirs := l } dir h b st ∧ RowAt st.h (b + 2) ver cap 1 ((a.filter (fun p => (withinN dir p).1)).map encS) ∧ st.t 7 = .one (.win (b + 2) ver 0 (a.filter (fun p => (withinN dir p).1)).length cap)) ?_ ?_
 ·refine Rg (fun E K hE hK => ?_)
  refine Us (kn _ _) body_73 ?_
  refine hK _ _ _ ?_; clear hE hK K E
  refine AWP.block ?_
  refine AWP.loopM 3 (fun k st => ∃ i, i ≤ a.length ∧ k = a.length - i ∧ LsS { s with dirs := l } dir h b st ∧ (∃ ver cap, RowAt st.h (b + 2) ver cap 1 (((a.take i).filter (fun p => (withinN dir p).1)).map encS) ∧ st.t 7 = .one (.win (b + 2) ver 0 ((a.take i).filter (fun p => (withinN dir p).1)).length cap)) ∧ st.t 37 = ListV a ∧ st.t 38 = IntV a.length ∧ st.t 39 = IntV (i : Nat)) a.length rfl ⟨0, Nat.zero_le _, rfl, ⟨Ou, by exact Er, by (first | (simp -implicitDefEqProofs only [go_sem, ↓reduceIte, Nat.reduceEqDiff, Nat.reduceAdd, Nat.reduceLT, Nat.reduceLeDiff, reduceCtorEq, Int.toNat_natCast, zSgC]; first | done | rfl) | rfl), by exact Er, by exact Er, by exact Er⟩, ⟨0, 0, RowAt.nil, by exact Er⟩, by exact Er, by exact Er, by exact Er⟩ ?_
  rintro k ⟨t, hh, n⟩ ⟨i, hi, rfl, ⟨ho, hb, h1, e1, e2, e5⟩, ⟨ver, cap, hr, e7⟩, e37, e38, e39⟩ hn1
  simp only at ho hb h1 e1 e2 e5 hr e7 e37 e38 e39 hn1
  subst hn1
  refine Rkf (jn2 @e38 @e39) ?_
  refine AWP.seq ?_
  by_cases hlt : (i : Int) < a.length
  ·have hi2 : i < a.length := by omega
   have hw1 : IntKind.i64.wrap ((i : Int) + 1) = ((i + 1 : Nat) : Int) := by rw [wrap_i64 (by omega) (by omega)]; rfl
   have hge : (a.map encS).getD i [] = encS a[i] := getD_map encS a i hi2
   have htk : (a.take (i + 1)).filter (fun p => (withinN dir p).1) = (a.take i).filter (fun p => (withinN dir p).1) ++ (if (withinN dir a[i]).1 = true then [a[i]] else []) := by
    rw [List.take_add_one, List.filter_append, List.getElem?_eq_getElem hi2]
    cases hq : (withinN dir a[i]).1 <;> simp [hq]
   have hfl : ((a.take i).filter (fun p => (withinN dir p).1)).length ≤ 4000 := Nat.le_trans (List.length_filter_le _ _) (by rw [List.length_take]; omega)
   obtain ⟨p, hp⟩ : ∃ p, a[i] = p := ⟨_, rfl⟩
   have hps : p.length ≤ 1000 := has p (by rw [← hp]; exact List.getElem_mem hi2)
   rw [hp] at hge htk
   generalize (a.take i).filter (fun p => (withinN dir p).1) = m at hr e7 htk hfl
   have kw := rWithin_ok (mkS dir) (mkS p) (by rw [mkS_size]; exact hd1) (by rw [mkS_size]; exact hps)
   rw [show bl (mkS dir) = dir from rfl, show bl (mkS p) = p from rfl] at kw
   obtain ⟨⟨y, e⟩, hy⟩ : ∃ y, withinN dir p = y := ⟨_, rfl⟩
   rw [hy] at kw htk
   simp only at kw htk
   refine Btf @hlt ?_
   refine AWP.skip ?_
   refine Ev ?_
   refine AWP.seq ?_
   refine AWP.block ?_
   refine AWP.seqReg (by kernel_rfl) (fun E K hE hK => ?_); simp -implicitDefEqProofs only [go_sem, ↓reduceIte, Nat.reduceEqDiff, Nat.reduceAdd, Nat.reduceLT, Nat.reduceLeDiff, reduceCtorEq, Int.toNat_natCast, e37, e39, hlma, hlt, hge, encS]
   refine ⟨by omega, ?_⟩
   refine hK _ _ _ ?_; clear hE hK K E
   refine Rgf @e1 (fun E K hE hK => ?_)
   refine Us (kw _ _) body_74 ?_
   refine hK _ _ _ ?_; clear hE hK K E
   cases y
   ·rw [if_neg (by decide), List.append_nil] at htk
    refine Rk ?_
    refine Bf ?_
    refine AWP.skip ?_
    refine Ev ?_
    refine Raf (jn2 @e39 @hw1) (fun E K hE hK => ?_); refine hK _ _ _ ?_; clear hE hK K E
    exact ⟨(by decide : 3 ≤ 3), a.length - (i + 1), by omega, i + 1, by omega, rfl, LsS.cut ⟨_, b, ι, h, w, x0⟩ rfl (by decide) hlow ⟨ho, hb, h1, by exact Ecf @e1, by exact Ecf @e2, by exact Ecf @e5⟩, ⟨ver, cap, by rw [htk]; exact hr.cut (show b + 2 < b + 3 by omega), by rw [htk]; refine Evf @e7 ?_; exact cutV_win (show b + 2 < b + 3 by omega)⟩, by exact Ecf @e37, by exact Ecf @e38, by exact Er⟩
   ·rw [if_pos (by decide)] at htk
    refine Rk ?_
    refine Bt ?_
    refine Raf @e7 (fun E K hE hK => ?_)
    refine BiR.of ?_
    refine app_st (m := 1) (fs := [encS p]) (hr.ne (by omega)) (okEs_n _) (okEs_n [p]) (srcA_row (sz := 1) (m := 1) (es := [encS p]) (T := []) 0 (upd_same _ _ _) (okEs_n [p]) (by simp) (.inl rfl)) (by rw [List.length_map]) rfl (by omega) (fun cap' T' q1 q2 => ?_)
    refine Ev ?_
    refine hK _ _ _ ?_; clear hE hK K E
    refine Ev ?_
    refine Raf (jn2 @e39 @hw1) (fun E K hE hK => ?_); refine hK _ _ _ ?_; clear hE hK K E
    have hml : (m ++ [p]).length = m.length + 1 := by simp
    have g : ∀ x, x < b + 2 → ∀ B1 B2, (upd (upd hh (b + 3) B1) (b + 2) B2) x = hh x := fun x hx B1 B2 => (upd_ne _ _ _ _ (by omega)).trans (upd_ne _ _ _ _ (by omega))
    exact ⟨(by decide : 3 ≤ 4), a.length - (i + 1), by omega, i + 1, by omega, rfl, LsS.cut ⟨_, b, ι, h, w, x0⟩ rfl (by decide) hlow ⟨(Ouf @ho), (g _ (by omega) _ _).trans hb, (g _ (by omega) _ _).trans h1, by exact Ecf @e1, by exact Ecf @e2, by exact Ecf @e5⟩, ⟨ver + 1, cap', by rw [htk, List.map_append]; exact (RowAt.new q1 q2).cut (show b + 2 < b + 3 by omega), by rw [htk, hml]; refine Ev ?_; exact cutV_win (show b + 2 < b + 3 by omega)⟩, by exact Ecf @e37, by exact Ecf @e38, by exact Er⟩
  ·have hie : i = a.length := by omega
   subst hie
   rw [List.take_length] at hr e7
   refine Bff @hlt ?_
   refine AWP.exit ?_
   refine Ev ?_
   exact ⟨ver, cap, ⟨ho, hb, h1, e1, e2, e5⟩, hr, e7⟩
 rintro ⟨t, hh, n⟩ ⟨ver, cap, ⟨ho, hb, h1, e1, e2, e5⟩, hr, e7⟩
 simp only at ho hb h1 e1 e2 e5 hr e7
 generalize a.filter (fun p => (withinN dir p).1) = m at hr e7
 refine AWP.frzRow 7 e7 hr (okEs_str m) (by rw [List.length_map]) ?_
 have n12 : ¬ b + 1 = b + 2 := by omega
 have nb2 : ¬ b = b + 2 := by omega
 refine AWP.seqRegD [] [] [b + 1] mixed (by kernel_rfl) (by kernel_rfl) (fun K hK => .inl ?_) (by kernel_rfl); simp -implicitDefEqProofs only [go_sem, ↓reduceIte, Nat.reduceEqDiff, Nat.reduceAdd, Nat.reduceLT, Nat.reduceLeDiff, reduceCtorEq, Int.toNat_natCast, e2, e5, hb, h1, n1, n12, nb2, delH, zSgC]
 refine ⟨sub_at _ (by (first | (simp -implicitDefEqProofs only [go_sem, ↓reduceIte, Nat.reduceEqDiff, Nat.reduceAdd, Nat.reduceLT, Nat.reduceLeDiff, reduceCtorEq, Int.toNat_natCast, delH, n12, h1, zSgC]; first | done | rfl) | rfl)), ?_⟩
 refine hK _ _ _ ?_; clear hK K
 refine AWP.ret ?_
 exact Ends.pure hn H (fun id (hid : id < b) => by simp -implicitDefEqProofs only [go_sem, ↓reduceIte, Nat.reduceEqDiff, Nat.reduceAdd, Nat.reduceLT, Nat.reduceLeDiff, reduceCtorEq, Int.toNat_natCast, delH, show ¬ id = b + 1 by omega, show ¬ id = b + 2 by omega]; exact ho id hid) (r0 := .tup [ListV m, SgV { s with dirs := l }, IntV 0]) (by rw [show Tryz.f26.results.toList = [.tmp 4, .cell 5 63, .tmp 6] from rfl]; exact Erf @e5) (frz_tup3 (.p _) (frz_psS _) (.v _)) ⟨rfl, rfl⟩
theorem frbS_run (args : Array Value) (w : World) : (callFunc 134 args).run Tryz.prog w = ((Extern.MathFloatBits.float64frombits args).run Tryz.prog w).andThen fun v w' => .ok (.value v) w' :=
 run_callFunc_extern (fn := Tryz.f134) Tryz.func134 (by kernel_rfl) (by kernel_rfl) (by kernel_rfl) (e := Extern.MathFloatBits.float64frombits) (by kernel_rfl) args w
theorem frbS_ext {C : Ctx} {h : Heap} {n : Nat} {K : KT} {x : Int} (k : K (.one (.p (.v (.float .f64 x.toNat)))) h n) : ExtK Tryz.prog C 134 [.one (.p (.v (.int .u64 x)))] h n K := by
 intro a w ι Vs I hVs
 obtain ⟨hlen, hVs⟩ := hVs
 match Vs, hlen with
 | [X], _ =>
   have hX := rav_v_inv (hVs 0 _ X rfl rfl)
   subst hX
   refine ⟨.float .f64 x.toNat, w, _, h, n, ι, ?_, k, I, rav_v _, .refl _ _ _ _⟩
   rw [frbS_run]
   rfl
abbrev FltV (x : Nat) : AV := .one (.p (.v (.float .f64 x)))
theorem isNaNS_ok (x : Nat) (h : Heap) (b : Nat) : ACalls Tryz.prog 80 [FltV x] h b 0 (fun r h' => r = BoolV (FloatKind.f64.format.order x x != some .eq) ∧ h' = h) := by
 refine ACalls.enter Tryz.func80 rfl (by simp [Tryz.ntmps80]) (fun ι w hn H => ?_)
 refine Rk ?_
 refine Rk ?_
 refine AWP.ret ?_
 exact Ends.pure hn H (fun _ _ => rfl) (r0 := BoolV (FloatKind.f64.format.order x x != some .eq)) (by rw [show Tryz.f80.results.toList = [.tmp 2] from rfl]; exact Er) (.v _) ⟨rfl, rfl⟩
theorem NaNS_ok (h : Heap) (b : Nat) : ACalls Tryz.prog 81 [] h b 0 (fun r h' => r = FltV 9221120237041090561 ∧ h' = h) := by
 refine ACalls.enter Tryz.func81 rfl (by simp [Tryz.ntmps81]) (fun ι w hn H => ?_)
 refine Rk ?_
 refine Rg (fun E K hE hK => ?_)
 refine CallR.ext (frbS_ext ?_)
 refine Ev ?_
 refine hK _ _ _ ?_; clear hE hK K E
 refine AWP.ret ?_
 exact Ends.pure hn H (fun _ _ => rfl) (r0 := FltV 9221120237041090561) (by rw [show Tryz.f81.results.toList = [.tmp 0] from rfl]; exact Er) (.v _) ⟨rfl, rfl⟩
def putM (p : S) (r : Nat) (d : S) (h : Heap) (b : Nat) (st : St) : Prop :=
 st.t 1 = StrV p ∧ st.t 2 = FltV r ∧ st.t 3 = OctV d ∧ st.t 8 = .one (.ptr (b + 1) 0 0) ∧ st.t 10 = .one (.ptr (b + 3) 0 0) ∧
  st.h (b + 1) = some ⟨0, [.p (.v (.int .u64 0)), .p (.v (.slice none 0 0)), .p (.v (.slice none 0 0)), .p (.v (.slice none 0 0)), .p (.v (.slice none 0 0))]⟩ ∧ ∀ id, id < b → st.h id = h id
theorem putM.of {p d : S} {r r' : Nat} {h : Heap} {b : Nat} {t t' : Nat → AV} {hh hh' : Heap} {n n' : Nat} (k : putM p r d h b ⟨t, hh, n⟩) (e1 : t' 1 = t 1) (e2 : t' 2 = FltV r') (e3 : t' 3 = t 3) (e8 : t' 8 = t 8) (e10 : t' 10 = t 10) (eh : ∀ id, id < b + 3 → hh' id = hh id) : putM p r' d h b ⟨t', hh', n'⟩ := by
 obtain ⟨k1, k2, k3, k8, k10, h2, ho⟩ := k
 simp only at k1 k2 k3 k8 k10 h2 ho
 exact ⟨e1.trans k1, e2, e3.trans k3, e8.trans k8, e10.trans k10, (eh (b + 1) (by omega)).trans h2, fun id hid => (eh id (by omega)).trans (ho id hid)⟩
theorem putS_bad {s : Sg} {p d : S} {r : Nat} (hs : startS keyR s [p] ≠ 0) : putS keyR s p r d = (zSg, startS keyR s [p]) := by unfold putS; rw [if_pos hs]
theorem putS_go {s : Sg} {p d : S} {r : Nat} (hs : startS keyR s [p] = 0) : putS keyR s p r d = endS (editS s (if 65536 < d.length then 3 else 0) ⟨p, false, canonE r, [], d⟩) := by
 unfold putS
 rw [if_neg (by rw [hs]; simp)]
 split
 ·rw [edit_stuck (by decide)]; rfl
 ·rfl
theorem sputF_ok (s : Sg) (p : S) (r : Nat) (d : S) (hd : d.length ≤ 1000000) (z : SzS s) (h : Heap) (b : Nat) : ACalls Tryz.prog 32 [SgV s, StrV p, FltV r, OctV d] h b 0 (fun v h' => v = .tup [SgV (putS keyR s p r d).1, IntV (putS keyR s p r d).2] ∧ h' = h) := by
 refine ACalls.enter Tryz.func32 rfl (by simp [Tryz.ntmps32]) (fun ι w hn H => ?_)
 have hlow := H.lowCells
 have hdl : (d.map encO).length = d.length := List.length_map _
 refine Rk ?_
 refine Am.AWP.mid (fun st => putM p r d h b st ∧ ((startS keyR s [p] ≠ 0 ∧ st.n = 4 ∧ st.h (b + 3) = some ⟨0, seC (startS keyR s [p])⟩) ∨ (startS keyR s [p] = 0 ∧ st.n = 7 ∧ SW st.h (b + 3) (b + 4) (b + 5) (b + 6) s 0))) ?_ ?_
 ·by_cases hs : startS keyR s [p] = 0
  ·refine Ra (fun E K hE hK => ?_)
   refine CallR.use (sstartL_ok z (by simp) hs (b + 3) (show b + 2 < b + 3 by omega) (upd_same _ _ _)) body_57 ?_
   rintro _ h2 ⟨rfl, k1, k2⟩
   refine hK _ _ _ ?_; clear hE hK K E
   refine ⟨⟨by exact Er, by exact Er, by exact Er, by exact Er, by exact Er, (k2 (b + 1) (by omega) (by omega)).trans (by exact Er), fun id hid => ?_⟩, .inr ⟨hs, rfl, k1⟩⟩
   have hid' : id < b := hid
   have q0 : ¬ id = b := by omega
   have q1 : ¬ id = b + 1 := by omega
   have q2 : ¬ id = b + 2 := by omega
   exact (k2 id (show id < b + 3 by omega) (by omega)).trans (by exact Erf (jn3 @q0 @q1 @q2))
  ·refine Ra (fun E K hE hK => ?_)
   refine CallR.use (sstartBadL_ok z (by simp) hs (b + 3) (show b + 2 < b + 3 by omega) (upd_same _ _ _)) body_57 ?_
   rintro _ h2 ⟨rfl, k1, k2⟩
   refine hK _ _ _ ?_; clear hE hK K E
   refine ⟨⟨by exact Er, by exact Er, by exact Er, by exact Er, by exact Er, (k2 (b + 1) (by omega) (by omega)).trans (by exact Er), fun id hid => ?_⟩, .inl ⟨hs, rfl, k1⟩⟩
   have hid' : id < b := hid
   have q0 : ¬ id = b := by omega
   have q1 : ¬ id = b + 1 := by omega
   have q2 : ¬ id = b + 2 := by omega
   exact (k2 id (show id < b + 3 by omega) (by omega)).trans (by exact Erf (jn3 @q0 @q1 @q2))
 rintro ⟨t, h1, n⟩ ⟨hM, hc⟩
 refine Am.AWP.mid (fun st => putM p r d h b st ∧ ((startS keyR s [p] ≠ 0 ∧ st.n = 4 ∧ st.h (b + 3) = some ⟨0, seC (startS keyR s [p])⟩) ∨ (startS keyR s [p] = 0 ∧ st.n = 7 ∧ SW st.h (b + 3) (b + 4) (b + 5) (b + 6) s (if 65536 < d.length then 3 else 0)))) ?_ ?_
 ·have hM0 := hM
  obtain ⟨e1, e2, e3, e8, e10, hb1, ho⟩ := hM0
  simp only at e1 e2 e3 e8 e10 hb1 ho
  rcases hc with ⟨hs, hn1, hw⟩ | ⟨hs, hn1, hw⟩
  ·simp only at hn1 hw; subst hn1
   have c' : (startS keyR s [p] = 0) = False := eq_false hs
   refine Rkf (jn3 @e10 @hw @c') ?_
   refine Bf ?_
   exact AWP.skip ⟨hM.of (by exact Er) (by exact Erf @e2) (by exact Er) (by exact Er) (by exact Er) (fun _ _ => rfl), .inl ⟨hs, rfl, hw⟩⟩
  ·simp only at hn1 hw; subst hn1
   have hw0 := hw
   obtain ⟨ev, ec, nv, nc, dv, dc, w1, w2, w3, w4⟩ := hw0.w
   by_cases c : (65536 : Int) < d.length
   ·have c' : ((65536 : Int) < d.length) = True := eq_true c
    rw [if_pos (show 65536 < d.length by omega)]
    refine Rkf (jn5 @e10 @w1 @e3 @hdl @c') ?_
    refine Bt ?_
    refine Raf (jn2 @e10 @w1) (fun E K hE hK => ?_)
    refine hK _ _ _ ?_; clear hE hK K E
    refine ⟨hM.of (by exact Er) (by exact Erf @e2) (by exact Er) (by exact Er) (by exact Er) (fun id hid => upd_ne _ _ _ _ (Nat.ne_of_lt hid)), .inr ⟨hs, rfl, ⟨ev, ec, nv, nc, dv, dc, upd_same _ _ _, w2.ne (by omega), w3.ne (by omega), w4.ne (by omega)⟩, hw.d1, hw.d2, hw.d3, hw.d4, hw.d5, hw.d6⟩⟩
   ·have c' : ((65536 : Int) < d.length) = False := eq_false c
    rw [if_neg (show ¬ 65536 < d.length by omega)]
    refine Rkf (jn5 @e10 @w1 @e3 @hdl @c') ?_
    refine Bf ?_
    exact AWP.skip ⟨hM.of (by exact Er) (by exact Erf @e2) (by exact Er) (by exact Er) (by exact Er) (fun _ _ => rfl), .inr ⟨hs, rfl, hw⟩⟩
 clear hM hc t h1 n
 rintro ⟨t, h1, n⟩ ⟨hM, hc⟩
 refine Am.AWP.mid (fun st => putM p (canonE r) d h b st ∧ ((startS keyR s [p] ≠ 0 ∧ st.n = 4 ∧ st.h (b + 3) = some ⟨0, seC (startS keyR s [p])⟩) ∨ (startS keyR s [p] = 0 ∧ st.n = 7 ∧ SW st.h (b + 3) (b + 4) (b + 5) (b + 6) s (if 65536 < d.length then 3 else 0)))) ?_ ?_
 ·have hM0 := hM
  obtain ⟨e1, e2, e3, e8, e10, hb1, ho⟩ := hM0
  simp only at e1 e2 e3 e8 e10 hb1 ho
  cases hnan : (FloatKind.f64.format.order r r != some .eq)
  ·have hcr : canonE r = r := by unfold canonE; rw [if_neg (by rw [hnan]; simp)]
   rw [hcr]
   refine Rgf @e2 (fun E K hE hK => ?_)
   refine Us (isNaNS_ok r _ _) body_80 ?_
   refine Evf @hnan ?_
   refine hK _ _ _ ?_; clear hE hK K E
   refine Bf ?_
   exact AWP.skip ⟨hM.of (by exact Er) (by exact Erf @e2) (by exact Er) (by exact Er) (by exact Er) (fun _ _ => rfl), hc⟩
  ·have hcr : canonE r = 9221120237041090561 := by unfold canonE; rw [if_pos hnan]
   rw [hcr]
   refine Rgf @e2 (fun E K hE hK => ?_)
   refine Us (isNaNS_ok r _ _) body_80 ?_
   refine Evf @hnan ?_
   refine hK _ _ _ ?_; clear hE hK K E
   refine Bt ?_
   refine Ra (fun E K hE hK => ?_)
   refine Us (NaNS_ok _ _) body_81 ?_
   refine hK _ _ _ ?_; clear hE hK K E
   exact ⟨hM.of (by exact Er) (by exact Er) (by exact Er) (by exact Er) (by exact Er) (fun _ _ => rfl), hc⟩
 clear hM hc t h1 n
 rintro ⟨t, h1, n⟩ ⟨hM, hc⟩
 refine Am.AWP.mid (fun st => putM p (canonE r) d h b st ∧ endC st.h (b + st.n) (b + 3) (putS keyR s p r d).1 (putS keyR s p r d).2) ?_ ?_
 ·have hM0 := hM
  obtain ⟨e1, e2, e3, e8, e10, hb1, ho⟩ := hM0
  simp only at e1 e2 e3 e8 e10 hb1 ho
  rcases hc with ⟨hs, hn1, hw⟩ | ⟨hs, hn1, hw⟩
  ·simp only at hn1 hw; subst hn1
   rw [putS_bad hs]
   refine Raf (jn4 @e1 @e2 @e3 @e10) (fun E K hE hK => ?_)
   refine CallR.use ((clone_oc_ok (d.map encO) (okEs_oct d) _ _ (by rw [List.length_map]; omega)).rowFrz (okEs_oct d)) body_83 ?_
   rintro _ _ ⟨rfl, rfl⟩
   refine Evf (jn4 @e1 @e2 @e3 @e10) ?_
   refine Us (seditBad_ok _ ⟨p, false, canonE r, [], d⟩ hs _ (b + 4) (b + 3) (by omega) hw) body_82 ?_
   refine hK _ _ _ ?_; clear hE hK K E
   exact ⟨hM.of (by exact Er) (by exact Erf @e2) (by exact Er) (by exact Er) (by exact Er) (fun _ _ => rfl), endC_bad (C5 := [.p (.v (.int .u64 0)), .p (.sl 6 []), .p (.sl 5 []), .p (.sl 1 []), .p (.sl 1 [])]) (b + 4) hs rfl (by omega) hw⟩
  ·simp only at hn1 hw; subst hn1
   obtain ⟨o, hp⟩ := start_one.1 hs
   rw [putS_go hs]
   refine Raf (jn4 @e1 @e2 @e3 @e10) (fun E K hE hK => ?_)
   refine CallR.use ((clone_oc_ok (d.map encO) (okEs_oct d) _ _ (by rw [List.length_map]; omega)).rowFrz (okEs_oct d)) body_83 ?_
   rintro _ _ ⟨rfl, rfl⟩
   refine Evf (jn4 @e1 @e2 @e3 @e10) ?_
   refine CallR.use (sedit2_ok (x := ⟨p, false, canonE r, [], d⟩) _ o hp hw (b + 7) (by omega) (by omega) (by omega) (by omega)) body_82 ?_
   rintro _ h2 ⟨rfl, k1, k2⟩
   refine hK _ _ _ ?_; clear hE hK K E
   exact ⟨hM.of (by exact Er) (by exact Erf @e2) (by exact Er) (by exact Er) (by exact Er) (fun id hid => k2 id (by omega) (by omega) (by omega) (by omega) (by omega)), endC_any (b + 7) (by omega) k1⟩
 clear hM hc t h1 n
 rintro ⟨t, h1, n⟩ ⟨hM, hc⟩
 obtain ⟨⟨m, e⟩, hv⟩ : ∃ v, putS keyR s p r d = v := ⟨_, rfl⟩
 rw [hv] at hc ⊢
 simp only at hc ⊢
 obtain ⟨e1, e2, e3, e8, e10, hb1, ho⟩ := hM
 simp only at e1 e2 e3 e8 e10 hb1 ho
 refine Rgf @e10 (fun E K hE hK => ?_)
 refine CallR.use hc body_60 ?_
 rintro _ h2 ⟨rfl, k2⟩
 have hb1' := (k2 (b + 1) (by omega)).trans hb1
 simp -implicitDefEqProofs only [go_sem, ↓reduceIte, Nat.reduceEqDiff, Nat.reduceAdd, Nat.reduceLT, Nat.reduceLeDiff, reduceCtorEq, Int.toNat_natCast, e8, hb1', SgV, encSg]
 refine hK _ _ _ ?_; clear hE hK K E
 refine AWP.ret ?_
 exact Ends.pure hn H (fun id hid => (upd_ne _ _ _ _ (Nat.ne_of_lt (Nat.lt_add_right 1 hid))).trans ((k2 id (Nat.lt_add_right 3 hid)).trans (ho id hid))) (r0 := .tup [SgV m, IntV e]) (by rw [show Tryz.f32.results.toList = [.cell 8 63, .tmp 9] from rfl]; exact Erf @e8) (frz_tup2 (frz_psS _) (.v _)) ⟨rfl, rfl⟩
theorem sSameB_ok (s u : S) (h : Heap) (b : Nat) : ACalls Tryz.prog 76 [OctV s, OctV u] h b 0 (fun r h' => r = BoolV (decide (s = u)) ∧ h' = h) := by
 refine ACalls.enter Tryz.func76 rfl (by simp [Tryz.ntmps76]) (fun ι w hn H => ?_)
 have o1 := octE_mapM s
 have o2 := octE_mapM u
 have ho : octT Tryz.prog 38 9 = true := by kernel_rfl
 refine Rk ?_
 refine Rkf (jn3 @o1 @o2 @ho) ?_
 refine AWP.ret ?_
 exact Ends.pure hn H (fun _ _ => rfl) (r0 := BoolV (decide (s = u))) (by rw [show Tryz.f76.results.toList = [.tmp 4] from rfl]; exact Er) (.v _) ⟨rfl, rfl⟩
theorem sOne_ok (x : Ed) (h : Heap) (b : Nat) : ACalls Tryz.prog 27 [EdV x, EdV x] h b 0 (fun r h' => r = BoolV true ∧ h' = h) := by
 refine ACalls.enter Tryz.func27 rfl (by simp [Tryz.ntmps27]) (fun ι w hn H => ?_)
 have d1 : (keyD x.rank = keyD x.rank) = True := eq_true rfl
 have d2 : (x.data = x.data) = True := eq_true rfl
 refine Rk ?_
 cases hg : x.gone
 all_goals
  refine Rgf (jn2 @hg @mkS_list) (fun E K hE hK => ?_)
  refine Us (rankSameD_ok x.rank x.rank _ _) body_75 ?_
  try (refine Evf (jn2 @d1 @mkS_list) ?_)
  refine Us (sSameB_ok x.data x.data _ _) body_76 ?_
  try (refine Evf @d2 ?_)
  refine hK _ _ _ ?_; clear hE hK K E
  refine AWP.ret ?_
  exact Ends.pure hn H Ou (r0 := BoolV true) (by rw [show Tryz.f27.results.toList = [.tmp 4] from rfl]; exact Er) (.v _) ⟨rfl, rfl⟩
def begS (t : List Fl) (g : Int) : Sg × Int := if checkS keyR ⟨g, t, [], [], []⟩ ≠ 0 then (zSg, checkS keyR ⟨g, t, [], [], []⟩) else (⟨g, t, [], [], []⟩, 0)
theorem frz_sgN {h : Heap} {b : Nat} (g : Int) (t : List Fl) : frzV h b (.agg [.p (.v (.int .u64 g)), .p (.sl 6 (t.map encF)), .p (.v (.slice none 0 0)), .p (.v (.slice none 0 0)), .p (.v (.slice none 0 0))]) (SgV ⟨g, t, [], [], []⟩) := by
 refine .agg rfl (fun i c d hc hd => ?_)
 match i with
 | 0 | 1 => simp at hc hd; subst hc; subst hd; exact frz_p _
 | 2 => simp at hc hd; subst hc; subst hd; exact frz_nil 5
 | 3 => simp at hc hd; subst hc; subst hd; exact frz_nil 1
 | 4 => simp at hc hd; subst hc; subst hd; exact frz_nil 1
 | i + 5 => simp at hc
theorem sbegin_ok (t : List Fl) (g : Int) (ht : t.length ≤ 1000000) (h : Heap) (b : Nat) : ACalls Tryz.prog 30 [FlsV t, .one (.p (.v (.int .u64 g)))] h b 0 (fun r h' => r = .tup [SgV (begS t g).1, IntV (begS t g).2] ∧ h' = h) := by
 refine ACalls.enter Tryz.func30 rfl (by simp [Tryz.ntmps30]) (fun ι w hn H => ?_)
 have htl : (t.map encF).length = t.length := List.length_map _
 refine Rk ?_
 refine Rg (fun E K hE hK => ?_)
 refine CallR.use ((clone_fl_ok (t.map encF) (okEs_fl t) _ _ (by omega)).rowFrz (okEs_fl t)) body_78 ?_
 rintro _ _ ⟨rfl, rfl⟩
 refine Ev ?_
 refine hK _ _ _ ?_; clear hE hK K E
 refine AWP.seq ?_
 refine Rg (fun E K hE hK => ?_)
 refine CallR.use ((sCheck_ok ⟨g, t, [], [], []⟩ ht (by simp) (by simp) (by simp) _ _).argNil ⟨⟨.inl rfl, .inl rfl, .nil 5, .nil 1, .nil 1, trivial⟩, trivial⟩) body_35 ?_
 rintro _ _ ⟨rfl, rfl⟩
 refine Ev ?_
 refine hK _ _ _ ?_; clear hE hK K E
 obtain ⟨e, he⟩ : ∃ e, checkS keyR ⟨g, t, [], [], []⟩ = e := ⟨_, rfl⟩
 rw [he]
 by_cases c : e = 0
 ·have c' : (e = 0) = True := eq_true c
  have hv : begS t g = (⟨g, t, [], [], []⟩, 0) := by unfold begS; rw [he, if_neg (by rw [c]; simp)]
  rw [hv]
  refine Rkf @c' ?_
  refine Bs ?_
  refine Rk ?_
  refine AWP.ret ?_
  exact Ends.pure hn H Ou (r0 := .tup [.agg [.p (.v (.int .u64 g)), .p (.sl 6 (t.map encF)), .p (.v (.slice none 0 0)), .p (.v (.slice none 0 0)), .p (.v (.slice none 0 0))], IntV 0]) (by rw [show Tryz.f30.results.toList = [.cell 4 63, .tmp 5] from rfl]; exact Er) (frz_tup2 (frz_sgN g t) (.v _)) ⟨rfl, rfl⟩
 ·have c' : (e = 0) = False := eq_false c
  have hv : begS t g = (zSg, e) := by unfold begS; rw [he, if_pos c]
  rw [hv]
  refine Rkf @c' ?_
  refine Bt ?_
  refine Rk ?_
  refine AWP.ret ?_
  refine Ev ?_
  exact Ends.pure hn H Ou (r0 := .tup [.agg [.p (.v (.int .u64 0)), .p (.v (.slice none 0 0)), .p (.v (.slice none 0 0)), .p (.v (.slice none 0 0)), .p (.v (.slice none 0 0))], IntV e]) (by rw [show Tryz.f30.results.toList = [.cell 4 63, .tmp 5] from rfl]; exact Er) (frz_tup2 frz_sg0 (.v _)) ⟨rfl, rfl⟩
def fewE (x : Ed) : Bool := decide (x.name.length ≤ 200) && (decide (x.of.length ≤ 200) && decide (x.data.length ≤ 200))
def fewS (s : Sg) : Bool := s.ed.all fewE && (decide (s.t.length ≤ 30) && (fewT s.t && (decide (s.ed.length ≤ 30) && (fewN s.names && fewN s.dirs))))
theorem fewS_sz {s : Sg} (h : fewS s = true) : SzS s := by
 unfold fewS at h
 simp only [Bool.and_eq_true, decide_eq_true_eq, List.all_eq_true] at h
 obtain ⟨h1, h2, h3, h4, h5, h6⟩ := h
 unfold fewN at h5 h6
 simp only [Bool.and_eq_true, decide_eq_true_eq] at h5 h6
 refine ⟨by omega, by omega, by omega, by omega, fun x hx => ?_⟩
 have := h1 x hx
 unfold fewE at this
 simp only [Bool.and_eq_true, decide_eq_true_eq] at this
 omega
theorem sFew_ok (s : Sg) (ht : s.t.length ≤ 9223372036854775807) (hl : s.ed.length ≤ 9223372036854775807) (hn1 : s.names.length ≤ 9223372036854775807) (hd1 : s.dirs.length ≤ 9223372036854775807) (h : Heap) (b : Nat) : ACalls Tryz.prog 21 [SgV s] h b 0 (fun r h' => r = BoolV (fewS s) ∧ h' = h) := by
 refine ACalls.enter Tryz.func21 rfl (by simp [Tryz.ntmps21]) (fun ι w hn H => ?_)
 have hlow := H.lowCells
 have hlm : (s.ed.map encEd).length = s.ed.length := List.length_map _
 have htl : (s.t.map encF).length = s.t.length := List.length_map _
 have fin : ∀ (t : Nat → AV) (hh : Heap) (n : Nat) (v : Bool), t 2 = BoolV v → (∀ id, id < b → hh id = h id) → v = fewS s → Am.Ends Tryz.prog ⟨Tryz.f21.ntmps, b, ι, h, w, x0⟩ Tryz.f21 0 (fun r h' => r = BoolV (fewS s) ∧ h' = h) ⟨t, hh, n⟩ := by
  intro t hh n v ht ho hv
  exact Ends.pure hn H ho (r0 := BoolV v) (by rw [show Tryz.f21.results.toList = [.tmp 2] from rfl]; exact Ecf @ht) (.v _) ⟨by rw [hv], rfl⟩
 refine Rk ?_
 refine AWP.mid (fun st => (∀ id, id < b → st.h id = h id) ∧ st.t 1 = .one (.ptr b 0 0) ∧ st.h b = some ⟨0, (encSg s).map .p⟩ ∧ s.ed.all fewE = true) ?_ ?_
 ·refine Rkf @hlm ?_
  refine AWP.block ?_
  refine AWP.loopUp 1 s.ed.length (fun i st => (∀ id, id < b → st.h id = h id) ∧ st.t 1 = .one (.ptr b 0 0) ∧ st.h b = some ⟨0, (encSg s).map .p⟩ ∧ st.t 6 = EdsV s.ed ∧ st.t 7 = IntV s.ed.length ∧ st.t 8 = IntV (i : Nat) ∧ (s.ed.take i).all fewE = true) 0 (Nat.zero_le _) rfl ⟨Ou, by exact Er, by exact Er, by exact Er, by exact Er, by exact Er, by simp⟩ ?_
  rintro i ⟨t, hh, n⟩ hi ⟨ho, e1, hb, e6, e7, e8, hne⟩ hn1
  simp only at ho e1 hb e6 e7 e8 hn1
  subst hn1
  refine Rkf (jn2 @e7 @e8) ?_
  refine AWP.seq ?_
  by_cases hlt : (i : Int) < s.ed.length
  ·have hi2 : i < s.ed.length := by omega
   have hw1 : IntKind.i64.wrap ((i : Int) + 1) = ((i + 1 : Nat) : Int) := by rw [wrap_i64 (by omega) (by omega)]; rfl
   have hge : (s.ed.map encEd).getD i [] = encEd s.ed[i] := encEd_getD s.ed i hi2
   have htk : s.ed.take (i + 1) = s.ed.take i ++ [s.ed[i]] := by rw [List.take_add_one, List.getElem?_eq_getElem hi2]; rfl
   obtain ⟨x, hx⟩ : ∃ x, s.ed[i] = x := ⟨_, rfl⟩
   have hxm : x ∈ s.ed := by rw [← hx]; exact List.getElem_mem hi2
   rw [hx] at hge htk
   have hdl : (x.data.map encO).length = x.data.length := List.length_map _
   have bad : fewE x = false → false = fewS s := fun hb => by
    cases hf : fewS s with
    | false => rfl
    | true =>
      unfold fewS at hf
      rw [Bool.and_eq_true, List.all_eq_true] at hf
      rw [hf.1 x hxm] at hb; cases hb
   refine Btf @hlt ?_
   refine AWP.skip ?_
   refine Ev ?_
   refine AWP.seq ?_
   refine AWP.block ?_
   refine AWP.seqReg (by kernel_rfl) (fun E K hE hK => ?_); simp -implicitDefEqProofs only [go_sem, ↓reduceIte, Nat.reduceEqDiff, Nat.reduceAdd, Nat.reduceLT, Nat.reduceLeDiff, reduceCtorEq, Int.toNat_natCast, e6, e8, hlm, hlt, hge, encEd]
   refine ⟨by omega, ?_⟩
   refine hK _ _ _ ?_; clear hE hK K E
   by_cases c1 : (200 : Int) < x.name.length
   ·refine Rkf (jn2 @mkS_size @c1) ?_
    refine Bt ?_
    refine Rk ?_
    refine AWP.ret ?_
    refine Ev ?_
    exact fin _ _ _ false (by exact Er) (Ouf @ho) (bad (by unfold fewE; rw [decide_eq_false (by omega)]; rfl))
   by_cases c2 : (200 : Int) < x.of.length
   ·refine Rkf (jn3 @mkS_size @c1 @c2) ?_
    refine Bt ?_
    refine Rk ?_
    refine AWP.ret ?_
    refine Ev ?_
    exact fin _ _ _ false (by exact Er) (Ouf @ho) (bad (by unfold fewE; rw [decide_eq_false (show ¬ x.of.length ≤ 200 by omega)]; simp))
   by_cases c3 : (200 : Int) < x.data.length
   ·refine Rkf (jn5 @mkS_size @c1 @c2 @c3 @hdl) ?_
    refine Bt ?_
    refine Rk ?_
    refine AWP.ret ?_
    refine Ev ?_
    exact fin _ _ _ false (by exact Er) (Ouf @ho) (bad (by unfold fewE; rw [decide_eq_false (show ¬ x.data.length ≤ 200 by omega)]; simp))
   refine Rkf (jn5 @mkS_size @c1 @c2 @c3 @hdl) ?_
   refine Bf ?_
   refine AWP.skip ?_
   refine Ev ?_
   refine Raf (jn2 @e8 @hw1) (fun E K hE hK => ?_); refine hK _ _ _ ?_; clear hE hK K E
   exact ⟨(by decide : 1 ≤ 2), hi2, cutH_outer (Nat.le_add_right _ _) (Ouf @ho) hlow, by refine Evf @e1 ?_; exact cutV_ptr (Nat.lt_add_of_pos_right (by decide)), cutH_same (Nat.lt_add_of_pos_right (by decide)) (by exact Erf @hb) (by simp [lowCs, lowC]), by exact Ecf @e6, by exact Ecf @e7, by exact Er, by
    rw [htk, List.all_append, hne, List.all_cons]
    unfold fewE
    rw [decide_eq_true (by omega), decide_eq_true (by omega), decide_eq_true (by omega)]; rfl⟩
  ·have hie : i = s.ed.length := by omega
   subst hie
   rw [List.take_length] at hne
   refine Bff @hlt ?_
   refine AWP.exit ?_
   refine Ev ?_
   exact ⟨ho, by exact Ecf @e1, hb, hne⟩
 rintro ⟨t, hh, n⟩ ⟨ho, e1, hb, hne⟩
 simp only at ho e1 hb
 by_cases c1 : (s.t.length : Int) ≤ 30
 case neg =>
  refine AWP.seqReg (by kernel_rfl) (fun E K hE hK => ?_); simp -implicitDefEqProofs only [go_sem, ↓reduceIte, Nat.reduceEqDiff, Nat.reduceAdd, Nat.reduceLT, Nat.reduceLeDiff, reduceCtorEq, Int.toNat_natCast, e1, hb, htl, c1, encSg]; refine hK _ _ _ ?_; clear hE hK K E
  refine AWP.ret ?_
  exact fin _ _ _ false (by exact Er) ho (by unfold fewS; rw [decide_eq_false (show ¬ s.t.length ≤ 30 by omega)]; simp)
 cases c2 : fewT s.t
 ·refine AWP.seqReg (by kernel_rfl) (fun E K hE hK => ?_); simp -implicitDefEqProofs only [go_sem, ↓reduceIte, Nat.reduceEqDiff, Nat.reduceAdd, Nat.reduceLT, Nat.reduceLeDiff, reduceCtorEq, Int.toNat_natCast, e1, hb, htl, c1, encSg]
  refine Us (fewT_ok s.t ht _ _) body_55 ?_
  refine Evf @c2 ?_
  refine hK _ _ _ ?_; clear hE hK K E
  refine AWP.ret ?_
  exact fin _ _ _ false (by exact Er) ho (by unfold fewS; rw [c2]; simp)
 by_cases c3 : (s.ed.length : Int) ≤ 30
 case neg =>
  refine AWP.seqReg (by kernel_rfl) (fun E K hE hK => ?_); simp -implicitDefEqProofs only [go_sem, ↓reduceIte, Nat.reduceEqDiff, Nat.reduceAdd, Nat.reduceLT, Nat.reduceLeDiff, reduceCtorEq, Int.toNat_natCast, e1, hb, htl, c1, encSg]
  refine Us (fewT_ok s.t ht _ _) body_55 ?_
  simp -implicitDefEqProofs only [go_sem, ↓reduceIte, Nat.reduceEqDiff, Nat.reduceAdd, Nat.reduceLT, Nat.reduceLeDiff, reduceCtorEq, Int.toNat_natCast, c2, c3, e1, hb, encSg, hlm]
  refine hK _ _ _ ?_; clear hE hK K E
  refine AWP.ret ?_
  exact fin _ _ _ false (by exact Er) ho (by unfold fewS; rw [decide_eq_false (show ¬ s.ed.length ≤ 30 by omega)]; simp)
 cases c4 : fewN s.names
 ·refine AWP.seqReg (by kernel_rfl) (fun E K hE hK => ?_); simp -implicitDefEqProofs only [go_sem, ↓reduceIte, Nat.reduceEqDiff, Nat.reduceAdd, Nat.reduceLT, Nat.reduceLeDiff, reduceCtorEq, Int.toNat_natCast, e1, hb, htl, c1, encSg]
  refine Us (fewT_ok s.t ht _ _) body_55 ?_
  simp -implicitDefEqProofs only [go_sem, ↓reduceIte, Nat.reduceEqDiff, Nat.reduceAdd, Nat.reduceLT, Nat.reduceLeDiff, reduceCtorEq, Int.toNat_natCast, c2, c3, e1, hb, encSg, hlm]
  refine Us (fewNames_ok s.names hn1 _ _) body_56 ?_
  refine Evf @c4 ?_
  refine hK _ _ _ ?_; clear hE hK K E
  refine AWP.ret ?_
  exact fin _ _ _ false (by exact Er) ho (by unfold fewS; rw [c4]; simp)
 refine AWP.seqReg (by kernel_rfl) (fun E K hE hK => ?_); simp -implicitDefEqProofs only [go_sem, ↓reduceIte, Nat.reduceEqDiff, Nat.reduceAdd, Nat.reduceLT, Nat.reduceLeDiff, reduceCtorEq, Int.toNat_natCast, e1, hb, htl, c1, encSg]
 refine Us (fewT_ok s.t ht _ _) body_55 ?_
 simp -implicitDefEqProofs only [go_sem, ↓reduceIte, Nat.reduceEqDiff, Nat.reduceAdd, Nat.reduceLT, Nat.reduceLeDiff, reduceCtorEq, Int.toNat_natCast, c2, c3, e1, hb, encSg, hlm]
 refine Us (fewNames_ok s.names hn1 _ _) body_56 ?_
 simp -implicitDefEqProofs only [go_sem, ↓reduceIte, Nat.reduceEqDiff, Nat.reduceAdd, Nat.reduceLT, Nat.reduceLeDiff, reduceCtorEq, Int.toNat_natCast, c4, e1, hb, encSg]
 refine Us (fewNames_ok s.dirs hd1 _ _) body_56 ?_
 refine hK _ _ _ ?_; clear hE hK K E
 refine AWP.ret ?_
 exact fin _ _ _ (fewN s.dirs) (by exact Er) ho (by unfold fewS; rw [hne, c2, c4, decide_eq_true (show s.t.length ≤ 30 by omega), decide_eq_true (show s.ed.length ≤ 30 by omega)]; simp)
abbrev SgL (s : Sg) : List Cell := [.p (.v (.int .u64 s.gen)), .p (.sl 6 (s.t.map encF)), .p (.sl 5 (s.ed.map encEd)), .p (.sl 1 (s.names.map encS)), .p (.sl 1 (s.dirs.map encS))]
abbrev EdL (x : Ed) : List Cell := [.p (.v (.string (mkS x.name))), .p (.v (.bool x.gone)), .p (.v (.float .f64 x.rank)), .p (.v (.string (mkS x.of))), .p (.sl 1 (x.data.map encO))]
def lvB (s1 : Sg × Int) (s2 : Sg × Int) (s3 : Int × Sg × Int) (s4 s5 : Ed × Sg × Int) : Bool :=
 decide (checkS keyR s1.1 = 0) && (decide (s1.2 = 0) && (decide (s2.2 = 0) && (decide (s3.1 = 0) && (decide (s3.2.2 = 0) && (decide (s4.2.2 = 0) && (decide (s5.2.2 = 0) && (decide (s4.1.gone = false) && (decide (s4.1.data = [7]) && decide (s5.1.gone = true)))))))))
def slv1 : Sg × Int := begS [] 3
def slv2 : Sg × Int := putS keyR slv1.1 [97] 4607182418800017408 [7]
def slv3 : Int × Sg × Int := movS keyR slv2.1 [97] [98]
def slv4 : Ed × Sg × Int := seeS keyR slv3.2.1 [98]
def slv5 : Ed × Sg × Int := seeS keyR slv4.2.1 [97]
theorem lv_run : lvB slv1 slv2 slv3 slv4 slv5 = true := by decide +kernel
theorem slive_ok (h : Heap) (b : Nat) : ACalls Tryz.prog 20 [] h b 0 (fun r h' => r = BoolV true ∧ h' = h) := by
 refine ACalls.enter Tryz.func20 rfl (by simp [Tryz.ntmps20]) (fun ι w hn H => ?_)
 have hlv := lv_run
 obtain ⟨⟨s1, e1⟩, h1⟩ : ∃ v, slv1 = v := ⟨_, rfl⟩
 obtain ⟨⟨s2, e2⟩, h2⟩ : ∃ v, slv2 = v := ⟨_, rfl⟩
 obtain ⟨⟨how, s3, e3⟩, h3⟩ : ∃ v, slv3 = v := ⟨_, rfl⟩
 obtain ⟨⟨x4, s4, e4⟩, h4⟩ : ∃ v, slv4 = v := ⟨_, rfl⟩
 obtain ⟨⟨x5, s5, e5⟩, h5⟩ : ∃ v, slv5 = v := ⟨_, rfl⟩
 rw [h1, h2, h3, h4, h5] at hlv
 unfold lvB at hlv
 simp only [Bool.and_eq_true, decide_eq_true_eq] at hlv
 obtain ⟨q0, q1, q2, q3, q4, q5, q6, q7, q8, q9⟩ := hlv
 subst q1; subst q2; subst q3; subst q4; subst q5; subst q6
 have g2 : putS keyR s1 [97] 4607182418800017408 [7] = (s2, 0) := by have := h2; unfold slv2 at this; rw [h1] at this; exact this
 have g3 : movS keyR s2 [97] [98] = (0, s3, 0) := by have := h3; unfold slv3 at this; rw [h2] at this; exact this
 have g4 : seeS keyR s3 [98] = (x4, s4, 0) := by have := h4; unfold slv4 at this; rw [h3] at this; exact this
 have g5 : seeS keyR s4 [97] = (x5, s5, 0) := by have := h5; unfold slv5 at this; rw [h4] at this; exact this
 have o1 : StOK keyR s1 := check_iff.1 q0
 have o2 := put_ok g2
 have o3 := mov_ok g3
 have o4 : StOK keyR s4 := by obtain ⟨o, hp, _, _, e⟩ := see_inv g4; rw [e]; exact o.read hp
 have c1 : ∀ h b, ACalls Tryz.prog 30 [.one (.p (.v (.slice none 0 0))), .one (.p (.v (.int .u64 3)))] h b 0 (fun r h' => r = .tup [.agg (SgL s1), IntV 0] ∧ h' = h) := fun h b => by
  have := sbegin_ok [] 3 (by simp) h b
  rw [show begS [] 3 = (s1, 0) from h1] at this
  exact this.argNil ⟨.nil 6, lessV.refl _, trivial⟩
 have c2 : ∀ h b, ACalls Tryz.prog 32 [.agg (SgL s1), StrV [97], FltV 4607182418800017408, OctV [7]] h b 0 (fun r h' => r = .tup [.agg (SgL s2), IntV 0] ∧ h' = h) := fun h b => by
  have := sputF_ok s1 [97] 4607182418800017408 [7] (by simp) o1.sz h b
  rwa [g2] at this
 have c3 : ∀ h b, ACalls Tryz.prog 34 [.agg (SgL s2), StrV [97], StrV [98]] h b 0 (fun r h' => r = .tup [IntV 0, .agg (SgL s3), IntV 0] ∧ h' = h) := fun h b => by
  have := smov_ok s2 [97] [98] o2.sz h b
  rwa [g3] at this
 have c4 : ∀ h b, ACalls Tryz.prog 23 [.agg (SgL s3), StrV [98]] h b 0 (fun r h' => r = .tup [.agg (EdL x4), .agg (SgL s4), IntV 0] ∧ h' = h) := fun h b => by
  have := ssee_ok s3 [98] o3.sz h b
  rwa [g4] at this
 have c5 : ∀ h b, ACalls Tryz.prog 23 [.agg (SgL s4), StrV [97]] h b 0 (fun r h' => r = .tup [.agg (EdL x5), .agg (SgL s5), IntV 0] ∧ h' = h) := fun h b => by
  have := ssee_ok s4 [97] o4.sz h b
  rwa [g5] at this
 have n7 : octE (x4.data.map encO) = some [7] := by rw [q8]; rfl
 have ho : octT Tryz.prog 38 9 = true := by kernel_rfl
 refine Rk ?_
 refine Rg (fun E K hE hK => ?_)
 refine Us (c1 _ _) body_30 ?_
 refine hK _ _ _ ?_; clear hE hK K E
 refine Rg (fun E K hE hK => ?_)
 refine CallR.use ((c2 _ _).seal (fun i => decide (i = b + 1)) (.cons (.same _) (.cons (.same _) (.cons (.same _) (.cons (.one (view_1 _ rfl (by simp) (upd_same _ _ _))) .nil))))) body_32 ?_
 rintro _ _ ⟨rfl, rfl⟩
 simp -implicitDefEqProofs only [go_sem, ↓reduceIte, Nat.reduceEqDiff, Nat.reduceAdd, Nat.reduceLT, Nat.reduceLeDiff, reduceCtorEq, Int.toNat_natCast, delP]
 refine hK _ _ _ ?_; clear hE hK K E
 refine AWP.seqReg (by kernel_rfl) (fun E K hE hK => ?_); simp -implicitDefEqProofs only [go_sem, ↓reduceIte, Nat.reduceEqDiff, Nat.reduceAdd, Nat.reduceLT, Nat.reduceLeDiff, reduceCtorEq, Int.toNat_natCast, delP]
 refine Us (c3 _ _) body_34 ?_
 try (simp -implicitDefEqProofs only [go_sem, ↓reduceIte, Nat.reduceEqDiff, Nat.reduceAdd, Nat.reduceLT, Nat.reduceLeDiff, reduceCtorEq, Int.toNat_natCast, delP])
 refine hK _ _ _ ?_; clear hE hK K E
 refine AWP.seqReg (by kernel_rfl) (fun E K hE hK => ?_); simp -implicitDefEqProofs only [go_sem, ↓reduceIte, Nat.reduceEqDiff, Nat.reduceAdd, Nat.reduceLT, Nat.reduceLeDiff, reduceCtorEq, Int.toNat_natCast, delP]
 refine Us (c4 _ _) body_23 ?_
 try (simp -implicitDefEqProofs only [go_sem, ↓reduceIte, Nat.reduceEqDiff, Nat.reduceAdd, Nat.reduceLT, Nat.reduceLeDiff, reduceCtorEq, Int.toNat_natCast, delP])
 refine hK _ _ _ ?_; clear hE hK K E
 refine AWP.seqReg (by kernel_rfl) (fun E K hE hK => ?_); simp -implicitDefEqProofs only [go_sem, ↓reduceIte, Nat.reduceEqDiff, Nat.reduceAdd, Nat.reduceLT, Nat.reduceLeDiff, reduceCtorEq, Int.toNat_natCast, delP]
 refine Us (c5 _ _) body_23 ?_
 try (simp -implicitDefEqProofs only [go_sem, ↓reduceIte, Nat.reduceEqDiff, Nat.reduceAdd, Nat.reduceLT, Nat.reduceLeDiff, reduceCtorEq, Int.toNat_natCast, delP])
 refine hK _ _ _ ?_; clear hE hK K E
 have m7 : (([7] : S) = [7]) = True := eq_true rfl
 refine Rgf (jn4 @q7 @q9 @n7 @ho) (fun E K hE hK => ?_)
 try (refine Evf @m7 ?_)
 refine hK _ _ _ ?_; clear hE hK K E
 refine AWP.ret ?_
 refine Ends.pure hn H (fun id hid => ?_) (r0 := BoolV true) (by rw [show Tryz.f20.results.toList = [.tmp 0] from rfl]; exact Er) (.v _) ⟨rfl, rfl⟩
 have hid' : id < b := hid
 simp -implicitDefEqProofs only [go_sem, ↓reduceIte, Nat.reduceEqDiff, Nat.reduceAdd, Nat.reduceLT, Nat.reduceLeDiff, reduceCtorEq, Int.toNat_natCast, delP, show ¬ id = b by omega, show ¬ id = b + 1 by omega, show ¬ id = b + 2 by omega, show ¬ id = b + 3 by omega, show ¬ id = b + 4 by omega, decide_false]
theorem rSameS_ok (s : Sg) (z : SzS s) (h : Heap) (b : Nat) : ACalls Tryz.prog 28 [SgV s, SgV s] h b 0 (fun r h' => r = BoolV true ∧ h' = h) := by
 refine ACalls.enter Tryz.func28 rfl (by simp [Tryz.ntmps28]) (fun ι w hn H => ?_)
 have hlow := H.lowCells
 have hlm : (s.ed.map encEd).length = s.ed.length := List.length_map _
 have hl := z.ed
 have k1 := rSameG_ok s.t s.t (by have := z.t; omega)
 rw [sameL_refl keyD s.t] at k1
 have k3 := sgNm_ok s.names s.names (by have := z.nm; omega)
 have k4 := sgNm_ok s.dirs s.dirs (by have := z.dr; omega)
 rw [decide_eq_true rfl] at k3 k4
 have n1 : ¬ b = b + 1 := by omega
 have d0 : (s.gen = s.gen) = True := eq_true rfl
 have d1 : ((s.ed.length : Int) = s.ed.length) = True := eq_true rfl
 refine Rk ?_
 refine AWP.seq ?_
 refine AWP.seqReg (by kernel_rfl) (fun E K hE hK => ?_); simp -implicitDefEqProofs only [go_sem, ↓reduceIte, Nat.reduceEqDiff, Nat.reduceAdd, Nat.reduceLT, Nat.reduceLeDiff, reduceCtorEq, Int.toNat_natCast, encSg, n1, d0, decide_true]
 refine Us (k1 _ _) body_77 ?_
 try (refine Evf @n1 ?_)
 refine Us (k3 _ _) body_29 ?_
 try (refine Evf @n1 ?_)
 refine Us (k4 _ _) body_29 ?_
 try (refine Evf (jn3 @n1 @hlm @d1) ?_)
 refine hK _ _ _ ?_; clear hE hK K E
 refine Bs ?_
 refine AWP.seq ?_
 refine Rkf (jn2 @hlm @n1) ?_
 refine AWP.block ?_
 refine AWP.loopUp 2 s.ed.length (fun i st => (∀ id, id < b → st.h id = h id) ∧ st.t 2 = .one (.ptr b 0 0) ∧ st.t 3 = .one (.ptr (b + 1) 0 0) ∧ st.h b = some ⟨0, (encSg s).map .p⟩ ∧ st.h (b + 1) = some ⟨0, (encSg s).map .p⟩ ∧ st.t 50 = IntV s.ed.length ∧ st.t 51 = IntV (i : Nat)) 0 (Nat.zero_le _) rfl ⟨Ou, by exact Er, by exact Er, by exact Erf @n1, by exact Er, by exact Er, by exact Er⟩ ?_
 rintro i ⟨t, hh, n⟩ hi ⟨ho, e2, e3, hb, hb1, e50, e51⟩ hn1
 simp only at ho e2 e3 hb hb1 e50 e51 hn1
 subst hn1
 refine Rkf (jn2 @e50 @e51) ?_
 refine AWP.seq ?_
 by_cases hlt : (i : Int) < s.ed.length
 ·have hi2 : i < s.ed.length := by omega
  have hw1 : IntKind.i64.wrap ((i : Int) + 1) = ((i + 1 : Nat) : Int) := by rw [wrap_i64 (by omega) (by omega)]; rfl
  have hge := encEd_getD s.ed i hi2
  obtain ⟨x, hx⟩ : ∃ x, s.ed[i] = x := ⟨_, rfl⟩
  rw [hx] at hge
  refine Btf @hlt ?_
  refine AWP.skip ?_
  refine Ev ?_
  refine AWP.seq ?_
  refine AWP.block ?_
  refine Rkf @e51 ?_
  refine AWP.seqRegD [64] [BoolV true] [] mixed (by kernel_rfl) (by kernel_rfl) (fun K hK => .inl ?_) (by kernel_rfl); simp -implicitDefEqProofs only [go_sem, ↓reduceIte, Nat.reduceEqDiff, Nat.reduceAdd, Nat.reduceLT, Nat.reduceLeDiff, reduceCtorEq, Int.toNat_natCast, e2, e3, hb, hb1, hlm, hlt, hge, encSg, encEd]
  refine ⟨by omega, by omega, ?_⟩
  refine CallP.use (fun h b _ => sOne_ok x h b) body_27 ?_
  refine Ev ?_
  refine hK _ _ _ ?_; clear hK K
  refine Bf ?_
  refine AWP.skip ?_
  refine Ev ?_
  refine Raf (jn2 @e51 @hw1) (fun E K hE hK => ?_); refine hK _ _ _ ?_; clear hE hK K E
  exact ⟨(by decide : 2 ≤ 2), hi2, cutH_outer (Nat.le_add_right _ _) ho hlow, by refine Evf @e2 ?_; exact cutV_ptr (Nat.lt_add_of_pos_right (by decide)), by refine Evf @e3 ?_; exact cutV_ptr (show b + 1 < b + 2 by omega), cutH_same (Nat.lt_add_of_pos_right (by decide)) hb (show lowCs _ ((encSg s).map Cell.p) = true from lowCs_p _ _), cutH_same (show b + 1 < b + 2 by omega) hb1 (show lowCs _ ((encSg s).map Cell.p) = true from lowCs_p _ _), by exact Ecf @e50, by exact Er⟩
 ·refine Bff @hlt ?_
  refine AWP.exit ?_
  refine Ev ?_
  refine Rk ?_
  refine AWP.ret ?_
  exact Ends.pure hn H ho (r0 := BoolV true) (by rw [show Tryz.f28.results.toList = [.tmp 4] from rfl]; exact Er) (.v _) ⟨rfl, rfl⟩
def edW (x : Ed) (id ver cap : Nat) : List Cell := [.p (.v (.string (mkS x.name))), .p (.v (.bool x.gone)), .p (.v (.float .f64 x.rank)), .p (.v (.string (mkS x.of))), .win id ver 0 x.data.length cap]
def whatOR (x : Ed) (h : Heap) (b : Nat) (r : AV) (h' : Heap) : Prop :=
 ∃ ver cap, r = .agg (edW x b ver cap) ∧ RowAt h' b ver cap 1 (x.data.map encO) ∧ ∀ id, id < b → h' id = h id
theorem low0_row (v : Nat) (es : List (List PD)) (T : List Cell) (hT : lowCs 0 T = true) (h : Heap) (b : Nat) (LL : List (Nat × List Cell)) (i : Nat) (c d : Cell) (q1 : (rowB v es T).cells[i]? = some c) (q2 : (rowB v es T).cells[i]? = some d) : renC h b LL c d := by
 rw [q1] at q2; injection q2 with q2
 exact .inl ⟨q2, lowCs_mem (lowCs_app (lowCs_p _ _) (lowCs_mono (Nat.zero_le _) hT)) c (List.mem_of_getElem? q1)⟩
theorem swhatO_ok (s : Sg) (e : Int) (p : S) (x : Ed) (hr : Ris nmE s.ed) (hl : s.ed.length ≤ 1000000) (hdl : ∀ x ∈ s.ed, x.data.length ≤ 1000000) (hc : ∀ x ∈ s.ed, chkN x.name = 0) (hp : okG p) (hg : getK nmE p s.ed = some x) (h : Heap) (b W B N D : Nat) (hW : W < b) (hBb : B < b) (hw : SW h W B N D s e) :
  ACalls Tryz.prog 59 [.one (.ptr W 0 0), StrV p] h b 1 (whatOR x h b) := by
 refine ACalls.enter Tryz.func59 rfl (by simp [Tryz.ntmps59]) (fun ι w hn H => ?_)
 have hWb : ¬ W = b := by omega
 have hBb1 : ¬ B = b := by omega
 have hWb1 : ¬ W = b + 1 := by omega
 obtain ⟨ev, ec, nv, nc, dv, dc, w1, w2, w3, w4⟩ := hw.w
 refine Rk ?_
 refine AWP.seq ?_
 refine Rgf (jn2 @w1 @hWb) (fun E K hE hK => ?_)
 refine Us (eFindO_ok s.ed p hr hl hc hp (w2.ne hBb1) _) body_111 ?_
 refine hK _ _ _ ?_; clear hE hK K E
 obtain ⟨hk, hk2⟩ := atK hr hg
 obtain ⟨T, t1, t2, t3⟩ := w2
 have hxm := (getK_mem hg).1
 have hlm : (s.ed.map encEd).length = s.ed.length := List.length_map _
 have hcl2 : ((s.ed.map encEd).flatten.map Cell.p ++ T).length = s.ed.length * 5 + T.length := by rw [List.length_append, List.length_map, okEs_len (okEs_ed s.ed), hlm]
 have hpart := row_part T (okEs_ed s.ed) (i := posK nmE p s.ed) (e := encEd x) (by rw [List.getElem?_map, List.getElem?_eq_getElem hk, hk2]; rfl)
 have t1' : h B = some ⟨ev, (s.ed.map encEd).flatten.map Cell.p ++ T⟩ := t1
 generalize hL : (s.ed.map encEd).flatten.map Cell.p ++ T = L at t1' hpart hcl2
 have hle : posK nmE p s.ed * 5 + 5 ≤ L.length := by omega
 have hki : ((posK nmE p s.ed : Nat) : Int) < s.ed.length := by omega
 generalize posK nmE p s.ed = k at hk hk2 hpart hle hki
 refine Rkf @hg ?_
 refine Bt ?_
 refine Rgf (jn7 @w1 @hWb @hWb1 @t1' @hBb1 @hki @hpart) (fun E K hE hK => ?_)
 repeat (refine ⟨by omega, ?_⟩)
 refine hK _ _ _ ?_; clear hE hK K E
 refine Rg (fun E K hE hK => ?_)
 refine CallR.use (clone_oc_ok (x.data.map encO) (okEs_oct x.data) _ _ (by rw [List.length_map]; have := hdl x hxm; omega)) body_83 ?_
 rintro _ _ ⟨ver, cap, T2, g1, g2, g3, rfl, rfl⟩
 refine Ev ?_
 refine hK _ _ _ ?_; clear hE hK K E
 refine Rk ?_
 refine AWP.ret ?_
 refine Ev ?_
 have hxl : (x.data.map encO).length = x.data.length := List.length_map _
 refine Ends.keepL [(b + 2, rowB ver (x.data.map encO) T2, (rowB ver (x.data.map encO) T2).cells)] rfl H Ou (fun y hy => ?_) (by simp) (r0 := .agg (edW x (b + 2) ver cap)) (by rw [show Tryz.f59.results.toList = [.cell 4 67] from rfl]; (first | (simp -implicitDefEqProofs only [go_sem, ↓reduceIte, Nat.reduceEqDiff, Nat.reduceAdd, Nat.reduceLT, Nat.reduceLeDiff, reduceCtorEq, Int.toNat_natCast, edW, hxl]; first | done | rfl) | rfl)) (r := .agg (edW x b ver cap)) (.agg rfl fun i c d hc hd => ?_) (fun h' hk hlo => ?_)
 ·simp only [List.mem_cons, List.not_mem_nil, or_false] at hy
  subst hy
  exact ⟨Nat.le_add_right _ _, by exact Er, rfl, fun i c d q1 q2 => low0_row _ _ _ g3 _ _ _ i c d q1 q2⟩
 ·match i with
  | 0 | 1 | 2 | 3 => simp [edW] at hc hd; subst hc; subst hd; exact renC_p _
  | 4 => simp [edW] at hc hd; subst hc; subst hd; exact .inr (.inr (.inr (.inl ⟨0, b + 2, _, ver, 0, _, cap, rfl, rfl, rfl⟩)))
  | i + 5 => simp [edW] at hc
 ·exact ⟨ver, cap, rfl, ⟨T2, hk 0 _ rfl, by rw [hxl] at g2 ⊢; omega, g3⟩, hlo⟩
def seeOR (x : Ed) (m : Sg) (h : Heap) (b : Nat) (r : AV) (h' : Heap) : Prop :=
 ∃ ver cap, r = .tup [.agg (edW x b ver cap), SgV m, IntV 0] ∧ RowAt h' b ver cap 1 (x.data.map encO) ∧ ∀ id, id < b → h' id = h id
theorem sseeO_ok (s : Sg) (p : S) (x : Ed) (m : Sg) (z : SzS s) (hv : seeS keyR s p = (x, m, 0)) (hxd : x.data ≠ []) (h : Heap) (b : Nat) : ACalls Tryz.prog 23 [SgV s, StrV p] h b 1 (seeOR x m h b) := by
 refine ACalls.enter Tryz.func23 rfl (by simp [Tryz.ntmps23]) (fun ι w hn H => ?_)
 have hlow := H.lowCells
 obtain ⟨o, hp, hr0, hx0, hm0⟩ := see_inv hv
 have hs : startS keyR s [p] = 0 := start_one.2 ⟨o, hp⟩
 refine Rk ?_
 refine Am.AWP.mid (fun st => seeM s p zEd h b st ∧ st.n = 8 ∧ SW st.h (b + 4) (b + 5) (b + 6) (b + 7) s 0) ?_ ?_
 ·refine Ra (fun E K hE hK => ?_)
  refine CallR.use (sstartL_ok z (by simp) hs (b + 4) (show b + 3 < b + 4 by omega) (upd_same _ _ _)) body_57 ?_
  rintro _ h2 ⟨rfl, k1, k2⟩
  refine hK _ _ _ ?_; clear hE hK K E
  refine ⟨⟨by exact Er, by exact Er, by exact Er, by exact Er, by exact Er, ⟨s, (k2 b (by omega) (by omega)).trans (by exact Er)⟩, ⟨.v (.slice none 0 0), (k2 (b + 1) (by omega) (by omega)).trans (by exact Er), .inr ⟨rfl, rfl⟩⟩, (k2 (b + 2) (by omega) (by omega)).trans (by exact Er), fun id hid => by
   have hid' : id < b := hid
   have q0 : ¬ id = b := by omega
   have q1 : ¬ id = b + 1 := by omega
   have q2 : ¬ id = b + 2 := by omega
   have q3 : ¬ id = b + 3 := by omega
   exact (k2 id (show id < b + 4 by omega) (by omega)).trans (by exact Erf (jn4 @q0 @q1 @q2 @q3))⟩, rfl, k1⟩
 rintro ⟨t, h1, n⟩ ⟨hM, hn1, hw⟩
 simp only at hn1 hw; subst hn1
 refine Am.AWP.mid (fun st => seeM s p zEd h b st ∧ st.n = 8 ∧ SW st.h (b + 4) (b + 5) (b + 6) (b + 7) (readS s 0 p).1 (readS s 0 p).2) ?_ ?_
 ·have hM0 := hM
  obtain ⟨e1, _, _, _, e7, _⟩ := hM0
  simp only at e1 e7
  have hw0 := hw
  obtain ⟨ev, ec, nv, nc, dv, dc, w1, _⟩ := hw0.w
  refine Rkf (jn2 @e7 @w1) ?_
  refine Bt ?_
  refine Raf (jn2 @e7 @e1) (fun E K hE hK => ?_)
  refine CallR.use (sread_ok s 0 p o.nris o.sz.nm (fun x hx => .inr (o.nchk x hx)) (.inr hp) _ (b + 8) (b + 4) (b + 5) (b + 6) (b + 7) (by omega) (by omega) (by omega) (by omega) hw) body_58 ?_
  rintro _ h2 ⟨rfl, k1, k2⟩
  refine hK _ _ _ ?_; clear hE hK K E
  exact ⟨hM.of (by exact Er) (by exact Er) (by exact Er) (by exact Er) (by exact Er) (fun id hid => k2 id (by omega) (by omega) (by omega) (by omega) (by omega)), rfl, k1⟩
 clear hM hw t h1
 rintro ⟨t, h1, n⟩ ⟨hM, hn1, hw⟩
 simp only at hn1 hw; subst hn1
 have o1 : StOK keyR (readS s 0 p).1 := o.read hp
 rw [hr0] at hw
 have hed : (readS s 0 p).1.ed = s.ed := by rw [readS_put]
 have hg : getK nmE p (readS s 0 p).1.ed = some x := by
  rw [hed]
  cases hg : getK nmE p s.ed with
  | some y => rw [hx0]; unfold whatS; rw [hg]
  | none =>
    exfalso; apply hxd
    rw [hx0]; unfold whatS; rw [hg]
    simp only
    split <;> rfl
 obtain ⟨m0, hmm⟩ : ∃ m0, (readS s 0 p).1 = m0 := ⟨_, rfl⟩
 rw [hmm] at hw o1 hg
 have hm1 : m = m0 := hm0.trans hmm
 subst hm1
 refine Am.AWP.mid (fun st => st.t 2 = .one (.ptr b 0 0) ∧ st.t 4 = .one (.ptr (b + 1) 0 0) ∧ st.t 5 = .one (.ptr (b + 2) 0 0) ∧ st.t 7 = .one (.ptr (b + 4) 0 0) ∧ (∃ v, st.h b = some ⟨0, (encSg v).map .p⟩) ∧ st.h (b + 2) = some ⟨0, zSgC⟩ ∧ (∀ id, id < b → st.h id = h id) ∧ st.n = 9 ∧ SW st.h (b + 4) (b + 5) (b + 6) (b + 7) m 0 ∧ ∃ ver cap, st.h (b + 1) = some ⟨0, edW x (b + 8) ver cap⟩ ∧ RowAt st.h (b + 8) ver cap 1 (x.data.map encO)) ?_ ?_
 ·obtain ⟨e1, e2, e4, e5, e7, ⟨v, hb⟩, ⟨d, hd, hd2⟩, hb2, ho⟩ := hM
  simp only at e1 e2 e4 e5 e7 hb hd hb2 ho
  have hw0 := hw
  obtain ⟨ev, ec, nv, nc, dv, dc, w1, _⟩ := hw0.w
  refine Rkf (jn2 @e7 @w1) ?_
  refine Bt ?_
  refine AWP.reg (by kernel_rfl) (fun E K hE hK => ?_); simp -implicitDefEqProofs only [go_sem, ↓reduceIte, Nat.reduceEqDiff, Nat.reduceAdd, Nat.reduceLT, Nat.reduceLeDiff, reduceCtorEq, Int.toNat_natCast, e7, e1, e4, hd, edC]
  refine CallR.use (swhatO_ok m 0 p x o1.ris o1.sz.ed o1.sz.data (fun x hx => mayE_chk (o1.may x hx)) (.inr hp) hg _ (b + 8) (b + 4) (b + 5) (b + 6) (b + 7) (by omega) (by omega) hw) body_59 ?_
  rintro _ h2 ⟨ver, cap, rfl, k1, k2⟩
  have hd' := (k2 (b + 1) (by omega)).trans hd
  obtain ⟨T, k11, k12, k13⟩ := k1
  simp -implicitDefEqProofs only [go_sem, ↓reduceIte, Nat.reduceEqDiff, Nat.reduceAdd, Nat.reduceLT, Nat.reduceLeDiff, reduceCtorEq, Int.toNat_natCast, e4, hd', k11, rowB, edC, edW]
  refine hK _ _ _ ?_; clear hE hK K E
  have g : ∀ y, y < b + 8 → y ≠ b + 1 → ∀ B, (upd h2 (b + 1) B) y = h1 y := fun y hy hne B => (upd_ne _ _ _ _ hne).trans (k2 y (by omega))
  refine ⟨by exact Erf @e2, by exact Erf @e4, by exact Erf @e5, by exact Erf @e7, ⟨v, (g b (by omega) (by omega) _).trans hb⟩, (g (b + 2) (by omega) (by omega) _).trans hb2, fun id hid => (g id (show id < b + 8 by have : id < b := hid; omega) (show id ≠ b + 1 by have : id < b := hid; omega) _).trans (ho id hid), rfl, hw.of (g (b + 4) (by omega) (by omega) _) (g (b + 5) (by omega) (by omega) _) (g (b + 6) (by omega) (by omega) _) (g (b + 7) (by omega) (by omega) _), ver, cap, upd_same _ _ _, ?_⟩
  exact RowAt.ne ⟨T, k11, k12, k13⟩ (by omega)
 clear hM hw t h1
 rintro ⟨t, h1, n⟩ ⟨e2, e4, e5, e7, ⟨v, hb⟩, hb2, ho, hn1, hw, ver, cap, hd, hrow⟩
 simp only at e2 e4 e5 e7 hb hb2 ho hn1 hw hd hrow; subst hn1
 refine Rgf (jn2 @e7 @hb) (fun E K hE hK => ?_)
 refine CallR.use (sendOk_ok m h1 (b + 9) (b + 4) (b + 5) (b + 6) (b + 7) (by omega) (by omega) (by omega) (by omega) hw) body_60 ?_
 rintro _ h2 ⟨rfl, k2⟩
 have hb' := (k2 b (by omega) (by omega) (by omega) (by omega)).trans hb
 have hd' := (k2 (b + 1) (by omega) (by omega) (by omega) (by omega)).trans hd
 have hb2' := (k2 (b + 2) (by omega) (by omega) (by omega) (by omega)).trans hb2
 have hrow' := hrow.ofE (k2 (b + 8) (by omega) (by omega) (by omega) (by omega))
 have ho' : ∀ id, id < b → h2 id = h id := fun id hid => (k2 id (by omega) (by omega) (by omega) (by omega)).trans (ho id hid)
 clear hrow hd hb2 hb ho hw k2 h1
 simp -implicitDefEqProofs only [go_sem, ↓reduceIte, Nat.reduceEqDiff, Nat.reduceAdd, Nat.reduceLT, Nat.reduceLeDiff, reduceCtorEq, Int.toNat_natCast, e2, hb', SgV, encSg]
 refine hK _ _ _ ?_; clear hE hK K E
 obtain ⟨T, k11, k12, k13⟩ := hrow'
 have hb3 : ∀ c, (upd h2 b c) (b + 1) = some ⟨0, edW x (b + 8) ver cap⟩ := fun c => (upd_ne _ _ _ _ (Nat.succ_ne_self b)).trans hd'
 have hb4 : ∀ c, (upd h2 b c) (b + 2) = some ⟨0, zSgC⟩ := fun c => (upd_ne _ _ _ _ (by omega)).trans hb2'
 have n8 : ∀ k, k < 8 → ¬ b + 8 = b + k := fun k hk => by omega
 have nb8 : ¬ b + 8 = b := by omega
 refine AWP.seqRegD [34] [] [b + 1, b + 2] mixed (by kernel_rfl) (by kernel_rfl) (fun K hK => .inl ?_) (by kernel_rfl); simp -implicitDefEqProofs only [go_sem, ↓reduceIte, Nat.reduceEqDiff, Nat.reduceAdd, Nat.reduceLT, Nat.reduceLeDiff, reduceCtorEq, Int.toNat_natCast, e2, e4, e5, hd', hb2', edW, zSgC, k11, rowB, n8 1 (by decide), n8 2 (by decide), nb8]
 refine ⟨(sub_ers _ _).trans (sub_ers _ _), subA2 (hb3 _) (by omega), subB2 (hb3 _) (hb4 _) (by omega), ?_⟩
 refine hK _ _ _ ?_; clear hK K
 refine AWP.ret ?_
 have hxl : (x.data.map encO).length = x.data.length := List.length_map _
 have n12 : ¬ b + 1 = b + 2 := by omega
 refine Ends.keepL [(b + 8, rowB ver (x.data.map encO) T, (rowB ver (x.data.map encO) T).cells)] rfl H (fun id hid => ?_) (fun y hy => ?_) (by simp) (r0 := .tup [.agg (edW x (b + 8) ver cap), SgV m, IntV 0]) (by rw [show Tryz.f23.results.toList = [.cell 4 67, .cell 5 63, .tmp 6] from rfl]; (first | (simp -implicitDefEqProofs only [go_sem, ↓reduceIte, Nat.reduceEqDiff, Nat.reduceAdd, Nat.reduceLT, Nat.reduceLeDiff, reduceCtorEq, Int.toNat_natCast, e4, e5, n12, edW]; first | done | rfl) | rfl)) (r := .tup [.agg (edW x b ver cap), SgV m, IntV 0]) (renV_tup3 (.agg rfl fun i c d hc hd => ?_) (.agg rfl fun i c d hc hd => ?_) (.one (renC_p _))) (fun h' hk hlo => ?_)
 ·have hid' : id < b := hid
  exact (upd_ne _ _ _ _ (by omega)).trans ((upd_ne _ _ _ _ (by omega)).trans ((upd_ne _ _ _ _ (by omega)).trans (ho' id hid')))
 ·simp only [List.mem_cons, List.not_mem_nil, or_false] at hy
  subst hy
  exact ⟨Nat.le_add_right _ _, (upd_ne _ _ _ _ (n8 2 (by decide))).trans ((upd_ne _ _ _ _ (n8 1 (by decide))).trans ((upd_ne _ _ _ _ nb8).trans k11)), rfl, fun i c d q1 q2 => low0_row _ _ _ k13 _ _ _ i c d q1 q2⟩
 ·match i with
  | 0 | 1 | 2 | 3 => simp [edW] at hc hd; subst hc; subst hd; exact renC_p _
  | 4 => simp [edW] at hc hd; subst hc; subst hd; exact .inr (.inr (.inr (.inl ⟨0, b + 8, _, ver, 0, _, cap, rfl, rfl, rfl⟩)))
  | i + 5 => simp [edW] at hc
 ·rw [hc] at hd; injection hd with hd; subst hd
  obtain ⟨q, _, rfl⟩ := List.mem_map.1 (List.mem_of_getElem? hc)
  exact renC_p _
 ·exact ⟨ver, cap, rfl, ⟨T, hk 0 _ rfl, by rw [hxl] at k12 ⊢; omega, k13⟩, hlo⟩
def sgD (s : Sg) (id ver cap : Nat) : List Cell := [.p (.v (.int .u64 s.gen)), .p (.sl 6 (s.t.map encF)), .p (.sl 5 (s.ed.map encEd)), .p (.sl 1 (s.names.map encS)), .win id ver 0 s.dirs.length cap]
def lisOR (s : Sg) (dir : S) (h : Heap) (b : Nat) (r : AV) (h' : Heap) : Prop :=
 ∃ l m ver cap, lstS keyR s dir = (m, 0) ∧ r = .tup [ListV l, .agg (sgD m b ver cap), IntV 0] ∧ RowAt h' b ver cap 1 (m.dirs.map encS) ∧ (∀ id, id < b → h' id = h id) ∧ Ris nmQ l ∧ ∀ p, p ∈ l ↔ p ∈ allN s ∧ isIn s dir p = true
theorem slistO_ok (s : Sg) (dir : S) (hgood : (lstS keyR s dir).2 = 0) (z : SzS s) (h : Heap) (b : Nat) : ACalls Tryz.prog 25 [SgV s, StrV dir] h b 1 (lisOR s dir h b) := by
 refine ACalls.enter Tryz.func25 rfl (by simp [Tryz.ntmps25]) (fun ι w hn H => ?_)
 have hlow := H.lowCells
 refine Rk ?_
 refine Am.AWP.mid (fun st => ∃ V, LisM dir h b V st ∧ LisC b s (checkS keyR s) V st) ?_ ?_
 ·have q8 : ∀ id, id < b + 3 → ¬ id = b + 7 := fun id hid => by omega
  have q4 : ∀ id, id < b + 3 → ¬ id = b + 4 := fun id hid => by omega
  have qlow : ∀ id, id < b → ¬ id = b ∧ ¬ id = b + 1 ∧ ¬ id = b + 2 := fun id hid => by omega
  by_cases hs : checkS keyR s = 0
  ·refine Ra (fun E K hE hK => ?_)
   refine CallR.use ((sstart_ok s [] z (by simp) hs _ (b + 3)).argNil ⟨lessV.refl _, .nil 1, trivial⟩) body_57 ?_
   rintro _ h2 ⟨rfl, k1, k2⟩
   obtain ⟨ev, ec, nv, nc, dv, dc, w1, _⟩ := k1.w
   refine Evf @w1 ?_
   refine hK _ _ _ ?_; clear hE hK K E
   refine ⟨b + 7, ⟨by exact Er, by exact Er, by exact Er, by exact Er, by exact Er, by exact Er, (upd_ne _ _ _ _ (q8 _ (by omega))).trans ((k2 (b + 1) (by omega)).trans (by exact Er)), (upd_ne _ _ _ _ (q8 _ (by omega))).trans ((k2 (b + 2) (by omega)).trans (by exact Er)), upd_same _ _ _, fun id hid => ?_⟩, .inr ⟨rfl, rfl, ?_⟩⟩
   ·obtain ⟨a1, a2, a3⟩ := qlow id hid
    exact (upd_ne _ _ _ _ (q8 _ (by omega))).trans ((k2 id (by omega)).trans (by exact Erf (jn3 @a1 @a2 @a3)))
   ·rw [hs]
    exact k1.of (upd_ne _ _ _ _ (by omega)) (upd_ne _ _ _ _ (by omega)) (upd_ne _ _ _ _ (by omega)) (upd_ne _ _ _ _ (by omega))
  ·refine Ra (fun E K hE hK => ?_)
   refine CallR.use ((sstartBad_ok s [] z (by simp) hs _ (b + 3)).argNil ⟨lessV.refl _, .nil 1, trivial⟩) body_57 ?_
   rintro _ h2 ⟨rfl, k1⟩
   subst k1
   refine Ev ?_
   refine hK _ _ _ ?_; clear hE hK K E
   refine ⟨b + 4, ⟨by exact Er, by exact Er, by exact Er, by exact Er, by exact Er, by exact Er, by exact Er, by exact Er, by exact Er, fun id hid => ?_⟩, .inl ⟨hs, rfl, rfl, by exact Er⟩⟩
   have q3 : ¬ id = b + 3 := by omega
   have q4 : ¬ id = b + 4 := by omega
   obtain ⟨a1, a2, a3⟩ := qlow id hid
   exact Ecf (jn5 @a1 @a2 @a3 @q3 @q4)
 rintro ⟨t, hh, n⟩ ⟨V, hM, hC⟩
 refine Am.AWP.mid (fun st => ∃ V, LisM dir h b V st ∧ LisC b s (lstE keyR s dir) V st) ?_ ?_
 ·have hM0 := hM
  obtain ⟨e2, e3, e4, e5, e6, e7, hd, h2, hV, ho⟩ := hM0
  simp only at e2 e3 e4 e5 e6 e7 hd h2 hV ho
  rcases hC with ⟨hs, hn1, rfl, hw⟩ | ⟨hn1, rfl, hw⟩
  ·simp only at hn1 hw; subst hn1
   have c' : (checkS keyR s = 0) = False := eq_false hs
   have hl : lstE keyR s dir = checkS keyR s := by unfold lstE; rw [if_neg (fun q => hs q.1)]
   rw [hl]
   refine Rkf (jn4 @e7 @hV @hw @c') ?_
   refine Bf ?_
   exact AWP.skip ⟨b + 4, hM.of (by exact Er) (by exact Er) (by exact Er) (by exact Er) (by exact Er) (by exact Er) (fun _ _ => rfl), .inl ⟨hs, rfl, rfl, hw⟩⟩
  ·simp only at hn1 hw; subst hn1
   have hw0 := hw
   obtain ⟨ev, ec, nv, nc, dv, dc, w1, w2, w3, w4⟩ := hw0.w
   by_cases hs : checkS keyR s = 0
   ·have c' : (checkS keyR s = 0) = True := eq_true hs
    by_cases hd0 : dir = []
    ·have cd : (dir = []) = True := eq_true hd0
     have hl : lstE keyR s dir = checkS keyR s := by unfold lstE; rw [if_neg (fun q => q.2 hd0)]
     rw [hl]
     refine Rkf (jn2 @e7 (jn7 @e3 @hV @w1 @hd @c' @mkS_list @cd)) ?_
     refine Bf ?_
     exact AWP.skip ⟨b + 7, hM.of (by exact Er) (by exact Er) (by exact Er) (by exact Er) (by exact Er) (by exact Er) (fun _ _ => rfl), .inr ⟨rfl, rfl, hw⟩⟩
    ·have cd : (dir = []) = False := eq_false hd0
     have hl : lstE keyR s dir = chkN dir := by unfold lstE; rw [if_pos ⟨hs, hd0⟩]
     rw [hl]
     refine Rkf (jn2 @e7 (jn7 @e3 @hV @w1 @hd @c' @mkS_list @cd)) ?_
     refine Bt ?_
     have nV3 : ¬ b + 7 = b + 3 := by omega
     have n13 : ¬ b + 1 = b + 3 := by omega
     refine AWP.rgS [] [] (ers hh (b + 3)) (sub_ers _ _) mixed (by kernel_rfl) (by kernel_rfl) (fun K hK => ?_) (by kernel_rfl); simp -implicitDefEqProofs only [go_sem, ↓reduceIte, Nat.reduceEqDiff, Nat.reduceAdd, Nat.reduceLT, Nat.reduceLeDiff, reduceCtorEq, Int.toNat_natCast, e7, e3, hV, hd, w1, nV3, n13]
     refine CallD.use (Check_ok (mkS dir) _ _) body_31 ?_
     rintro _ h_ ⟨rfl, e_⟩
     rw [e_]; clear e_ h_
     refine ⟨sub_ers _ _, ?_⟩
     refine Evf @w1 ?_
     refine ⟨sub_at _ w1, ?_⟩
     refine hK _ _ _ ?_; clear hK K
     exact ⟨b + 7, hM.of (by exact Er) (by exact Er) (by exact Er) (by exact Er) (by exact Er) (by exact Er) (fun id hid => upd_ne _ _ _ _ (by omega)), .inr ⟨rfl, rfl, ⟨ev, ec, nv, nc, dv, dc, upd_same _ _ _, w2.ne (by omega), w3.ne (by omega), w4.ne (by omega)⟩, hw.d1, hw.d2, hw.d3, hw.d4, hw.d5, hw.d6⟩⟩
   ·have c' : (checkS keyR s = 0) = False := eq_false hs
    have hl : lstE keyR s dir = checkS keyR s := by unfold lstE; rw [if_neg (fun q => hs q.1)]
    rw [hl]
    refine Rkf (jn4 @e7 @hV @w1 @c') ?_
    refine Bf ?_
    exact AWP.skip ⟨b + 7, hM.of (by exact Er) (by exact Er) (by exact Er) (by exact Er) (by exact Er) (by exact Er) (fun _ _ => rfl), .inr ⟨rfl, rfl, hw⟩⟩
 clear hM hC t hh n V
 rintro ⟨t, hh, n⟩ ⟨V, hM, hC⟩
 refine Am.AWP.mid (fun st => ∃ V, LisM dir h b V st ∧ LisC b (lst3 s dir).1 (lst3 s dir).2 V st) ?_ ?_
 ·have hM0 := hM
  obtain ⟨e2, e3, e4, e5, e6, e7, hd, h2, hV, ho⟩ := hM0
  simp only at e2 e3 e4 e5 e6 e7 hd h2 hV ho
  by_cases hs : lstE keyR s dir = 0
  ·rcases hC with ⟨hs', _⟩ | ⟨hn1, rfl, hw⟩
   ·exact absurd hs hs'
   simp only at hn1 hw; subst hn1
   have c' : (lstE keyR s dir = 0) = True := eq_true hs
   obtain ⟨o, hdir⟩ := lstE_zero.1 hs
   have hl : lst3 s dir = ({ s with dirs := (putE s.dirs 0 dir).1 }, (putE s.dirs 0 dir).2) := by unfold lst3; rw [if_neg (by rw [hs]; simp)]
   rw [hl]
   rw [hs] at hw
   have hw0 := hw
   obtain ⟨ev, ec, nv, nc, dv, dc, w1, w2, w3, w4⟩ := hw0.w
   refine Rkf (jn4 @e7 @hV @w1 @hs) ?_
   refine Bt ?_
   have nV3 : ¬ b + 7 = b + 3 := by omega
   have n13 : ¬ b + 1 = b + 3 := by omega
   have nV6 : ¬ b + 7 = b + 6 := by omega
   have n16 : ¬ b + 1 = b + 6 := by omega
   have n36 : ¬ b + 3 = b + 6 := by omega
   refine AWP.known ?_
   intro hfree
   refine AWP.rgS [40] [] (ers (delH hh (b + 6)) (b + 3)) ((sub_ers _ _).trans (sub_delH _ _)) mixed (by kernel_rfl) (by kernel_rfl) (fun K hK => ?_) (by kernel_rfl); simp -implicitDefEqProofs only [go_sem, ↓reduceIte, Nat.reduceEqDiff, Nat.reduceAdd, Nat.reduceLT, Nat.reduceLeDiff, reduceCtorEq, Int.toNat_natCast, e7, e3, hV, hd, w1, nV3, n13, nV6, n16, n36, delH]
   refine ⟨(sub_ers _ _).trans (sub_delH _ _), ?_⟩
   refine CallD.use (sput_ok s 0 s.dirs dir o.drs.1 (by have := o.dlen; omega) o.drs.2 hdir hh _ (b + 3) (b + 6) dv dc (b + 4) ev ec (b + 5) nv nc (b + 6) dv dc (show b + 3 < b + 8 by omega) (show b + 6 < b + 8 by omega) n36 (show b + 4 < b + 8 by omega) (show b + 5 < b + 8 by omega) (show b + 6 < b + 8 by omega) w1 w4) body_63 ?_
   rintro _ h3 ⟨xv, xc, rfl, g1, g2, g3⟩
   refine ⟨sub_gr2 (b := b + 8) hfree g3 w1 g1, ?_⟩
   obtain ⟨T2, q1, q2, q3⟩ := g2
   have hD3 : delH hh (b + 6) (b + 3) = some ⟨0, swC s 0 (b + 4) ev ec (b + 5) nv nc (b + 6) dv dc⟩ := (delH_ne _ _ _ n36).trans w1
   simp -implicitDefEqProofs only [go_sem, ↓reduceIte, Nat.reduceEqDiff, Nat.reduceAdd, Nat.reduceLT, Nat.reduceLeDiff, reduceCtorEq, Int.toNat_natCast, g1, q1, rowB, hD3]
   refine ⟨(sub_gr2 (c2 := [.p (.v (.int .u64 s.gen)), .p (.sl 6 (s.t.map encF)), .win (b + 4) ev 0 s.ed.length ec, .win (b + 5) nv 0 s.names.length nc, .win (b + 6) xv 0 (putE s.dirs 0 dir).1.length xc, .p (.v (.int .i64 (putE s.dirs 0 dir).2))]) (b := b + 8) hfree (fun id hid a1 a2 => (upd_ne _ _ _ _ a1).trans (g3 id hid a1 a2)) w1 (upd_same _ _ _)), ?_⟩
   refine hK _ _ _ ?_; clear hK K
   have g4 : ∀ id, id < b + 8 → id ≠ b + 3 → id ≠ b + 6 → (upd h3 (b + 3) ⟨0, [.p (.v (.int .u64 s.gen)), .p (.sl 6 (s.t.map encF)), .win (b + 4) ev 0 s.ed.length ec, .win (b + 5) nv 0 s.names.length nc, .win (b + 6) xv 0 (putE s.dirs 0 dir).1.length xc, .p (.v (.int .i64 (putE s.dirs 0 dir).2))]⟩) id = hh id := fun id hid a1 a2 => (upd_ne _ _ _ _ a1).trans (g3 id hid a1 a2)
   exact ⟨b + 7, hM.of (by exact Er) (by exact Er) (by exact Er) (by exact Er) (by exact Er) (by exact Er) (fun id hid => g4 id (by omega) (by omega) (by omega)), .inr ⟨rfl, rfl, ⟨ev, ec, nv, nc, xv, xc, upd_same _ _ _, w2.ofE (g4 _ (by omega) (by omega) (by omega)), w3.ofE (g4 _ (by omega) (by omega) (by omega)), ⟨T2, (upd_ne _ _ _ _ (by omega)).trans q1, q2, q3⟩⟩, hw.d1, hw.d2, hw.d3, hw.d4, hw.d5, hw.d6⟩⟩
  ·have c' : (lstE keyR s dir = 0) = False := eq_false hs
   have hl : lst3 s dir = (s, lstE keyR s dir) := by unfold lst3; rw [if_pos hs]
   rw [hl]
   rcases hC with ⟨_, hn1, rfl, hw⟩ | ⟨hn1, rfl, hw⟩
   ·simp only at hn1 hw; subst hn1
    refine Rkf (jn4 @e7 @hV @hw @c') ?_
    refine Bf ?_
    exact AWP.skip ⟨b + 4, hM.of (by exact Er) (by exact Er) (by exact Er) (by exact Er) (by exact Er) (by exact Er) (fun _ _ => rfl), .inl ⟨hs, rfl, rfl, hw⟩⟩
   ·simp only at hn1 hw; subst hn1
    have hw0 := hw
    obtain ⟨ev, ec, nv, nc, dv, dc, w1, w2, w3, w4⟩ := hw0.w
    refine Rkf (jn4 @e7 @hV @w1 @c') ?_
    refine Bf ?_
    exact AWP.skip ⟨b + 7, hM.of (by exact Er) (by exact Er) (by exact Er) (by exact Er) (by exact Er) (by exact Er) (fun _ _ => rfl), .inr ⟨rfl, rfl, hw⟩⟩
 clear hM hC t hh n V
 rintro ⟨t, hh, n⟩ ⟨V, hM, hC⟩
 obtain ⟨⟨s3, ev3⟩, hl3⟩ : ∃ r, lst3 s dir = r := ⟨_, rfl⟩
 have herr := lst3_err s dir
 have hok := lst3_ok s dir
 rw [hl3] at hC herr hok
 simp only at hC herr hok
 clear hl3
 obtain ⟨e2, e3, e4, e5, e6, e7, hd, h2, hV, ho⟩ := hM
 simp only at e2 e3 e4 e5 e6 e7 hd h2 hV ho
 refine AWP.seq ?_
 by_cases he : ev3 = 0
 case neg =>
  exact absurd (by have := herr he; rw [this] at hgood; exact hgood) he
 subst he
 rcases hC with ⟨he, _⟩ | ⟨hn1, rfl, hw⟩
 ·exact absurd rfl he
 simp only at hn1 hw; subst hn1
 have hls := hok rfl
 obtain ⟨o, hdir, hs3⟩ := lst_inv hls
 have hw0 := hw
 obtain ⟨ev, ec, nv, nc, dv, dc, w1, w2, w3, w4⟩ := hw0.w
 refine Rkf (jn3 @e7 @hV @w1) ?_
 refine Bs ?_
 refine AWP.virt 4 (by exact Erf @e4) ?_
 have ht3 : s3.t = s.t := by rw [hs3]
 have hed3 : s3.ed = s.ed := by rw [hs3]
 have htl := o.tlen
 have hel := o.len
 have hwt : ∀ s' : Sg, whatS s3 = whatS s := fun _ => by funext p; exact what_of hed3 ht3
 have n8 : ∀ x, x < b + 8 → x ≠ b + 8 := fun x hx => by omega
 refine PdSt.awp_st (LrM s3 dir h b []) ⟨rfl, by exact Erf @e3, by exact Erf @e5, by exact Erf @e6, by exact Erf @e7, (upd_ne _ _ _ _ (n8 _ (by omega))).trans hd, (upd_ne _ _ _ _ (n8 _ (by omega))).trans h2, (upd_ne _ _ _ _ (n8 _ (by omega))).trans hV, fun id hid => (upd_ne _ _ _ _ (n8 id (by omega))).trans (ho id hid), hw.of (upd_ne _ _ _ _ (n8 _ (by omega))) (upd_ne _ _ _ _ (n8 _ (by omega))) (upd_ne _ _ _ _ (n8 _ (by omega))) (upd_ne _ _ _ _ (n8 _ (by omega))), 0, 0, by exact Er, RowAt.nil⟩ ?_
 clear e2 e3 e4 e5 e6 e7 hd h2 hV ho hw hw0 w1 w2 w3 w4 t hh
 intro st hM
 refine Am.AWP.mid (LrM s3 dir h b (s.t.map Fl.name)) ?_ ?_
 ·obtain ⟨t, hh, n⟩ := st
  have hM0 := hM
  obtain ⟨rfl, e3, e5, e6, e7, hd, h2, hV, ho, hw, ver, cap, e4, hrow⟩ := hM0
  simp only at e3 e5 e6 e7 hd h2 hV ho hw e4 hrow
  obtain ⟨ev, ec, nv, nc, dv, dc, w1, w2, w3, w4⟩ := hw.w
  have hlm : (s.t.map encF).length = s.t.length := List.length_map _
  refine Rkf (jn5 @e7 @hV @w1 @ht3 @hlm) ?_
  refine AWP.block ?_
  refine AWP.loopM 9 (fun m st => ∃ i, i ≤ s.t.length ∧ m = s.t.length - i ∧ LrM s3 dir h b ((s.t.take i).map Fl.name) st ∧ st.t 61 = FlsV s.t ∧ st.t 62 = IntV s.t.length ∧ st.t 63 = IntV i) s.t.length rfl ⟨0, Nat.zero_le _, rfl, ⟨rfl, by exact Ecf @e3, by exact Ecf @e5, by exact Ecf @e6, by exact Ecf @e7, hd, h2, hV, ho, hw, ver, cap, by exact Ecf @e4, hrow⟩, by exact Er, by exact Er, by exact Er⟩ ?_
  clear hM e3 e5 e6 e7 hd h2 hV ho hw e4 hrow w1 w2 w3 w4
  rintro m ⟨t, hh, n⟩ ⟨i, hi, rfl, ⟨hn0, e3, e5, e6, e7, hd, h2, hV, ho, hw, ver, cap, e4, hrow⟩, e61, e62, e63⟩ hn1
  simp only at hn0 e3 e5 e6 e7 hd h2 hV ho hw e4 hrow e61 e62 e63 hn1
  subst hn0
  refine Rkf (jn2 @e62 @e63) ?_
  refine AWP.seq ?_
  by_cases hlt : (i : Int) < s.t.length
  ·have w9 := PdSt.w_add1 (a := i) (by omega)
   have hi2 : i < s.t.length := by omega
   have hge : (s.t.map encF).getD i [] = encF s.t[i] := getD_map encF s.t i hi2
   obtain ⟨f, hf⟩ : ∃ f, s.t[i] = f := ⟨_, rfl⟩
   rw [hf] at hge
   have htk : (s.t.take (i + 1)).map Fl.name = (s.t.take i).map Fl.name ++ [f.name] := by
    rw [List.take_add_one, List.getElem?_eq_getElem hi2, hf, List.map_append]; rfl
   refine Btf @hlt ?_
   refine AWP.skip ?_
   refine Ev ?_
   refine AWP.seq ?_
   refine AWP.block ?_
   refine AWP.seqReg (by kernel_rfl) (fun E K hE hK => ?_); simp -implicitDefEqProofs only [go_sem, ↓reduceIte, Nat.reduceEqDiff, Nat.reduceAdd, Nat.reduceLT, Nat.reduceLeDiff, reduceCtorEq, Int.toNat_natCast, e61, e63, hlm, hlt, hge, encF]
   repeat (refine ⟨by omega, ?_⟩)
   refine hK _ _ _ ?_; clear hE hK K E
   refine Raf @e4 (fun E K hE hK => ?_)
   refine BiR.of ?_
   refine app_st (m := 1) (fs := [encS f.name]) ((hrow.ne (by omega)).ne (by omega)) (okEs_n _) (okEs_n [f.name]) (srcA_row (sz := 1) (m := 1) (es := [encS f.name]) (T := []) 0 (upd_same _ _ _) (okEs_n [f.name]) (by simp) (.inl rfl)) (by rw [List.length_map, List.length_map]) rfl (by simp; omega) (fun cap' T' z1 z2 => ?_)
   refine Ev ?_
   refine hK _ _ _ ?_; clear hE hK K E
   refine Raf (jn2 @e63 @w9) (fun E K hE hK => ?_); refine hK _ _ _ ?_; clear hE hK K E
   have g : ∀ x, x < b + 8 → (upd (upd (upd hh (b + 9) ⟨0, (encF f).map .p⟩) (b + 10) ⟨0, [.p (.v (.string (mkS f.name)))]⟩) (b + 8) (rowB (ver + 1) (List.map encS (List.map Fl.name (List.take i s.t)) ++ [encS f.name]) T')) x = hh x := fun x hx => (upd_ne _ _ _ _ (show x ≠ b + 8 by omega)).trans ((upd_ne _ _ _ _ (show x ≠ b + 10 by omega)).trans (upd_ne _ _ _ _ (show x ≠ b + 9 by omega)))
   refine ⟨(by decide : 9 ≤ 11), s.t.length - (i + 1), by omega, i + 1, by omega, rfl, LrM.cut ⟨_, b, ι, h, w, x0⟩ rfl hlow ⟨rfl, by exact Ecf @e3, by exact Ecf @e5, by exact Ecf @e6, by exact Ecf @e7, (g _ (by omega)).trans hd, (g _ (by omega)).trans h2, (g _ (by omega)).trans hV, fun id hid => (g id (by omega)).trans (ho id hid), hw.of (g _ (by omega)) (g _ (by omega)) (g _ (by omega)) (g _ (by omega)), ver + 1, cap', ?_, ?_⟩, by exact Ecf @e61, by exact Ecf @e62, by exact Er⟩
   ·rw [htk, List.length_append, List.length_map]; exact Er
   ·rw [htk, List.map_append]; exact RowAt.new z1 z2
  ·refine Bff @hlt ?_
   refine AWP.exit ?_
   refine Ev ?_
   have hie : i = s.t.length := by omega
   subst hie
   rw [List.take_length] at e4 hrow
   exact ⟨rfl, by exact Ecf @e3, by exact Ecf @e5, by exact Ecf @e6, by exact Ecf @e7, hd, h2, hV, ho, hw, ver, cap, by exact Ecf @e4, hrow⟩
 clear hM st
 intro st hM
 refine Am.AWP.mid (LrM s3 dir h b (allN s)) ?_ ?_
 ·obtain ⟨t, hh, n⟩ := st
  have hM0 := hM
  obtain ⟨rfl, e3, e5, e6, e7, hd, h2, hV, ho, hw, ver, cap, e4, hrow⟩ := hM0
  simp only at e3 e5 e6 e7 hd h2 hV ho hw e4 hrow
  obtain ⟨ev, ec, nv, nc, dv, dc, w1, ⟨TE, a1, a2, a3⟩, w3, w4⟩ := hw.w
  have hel3 : s3.ed.length = s.ed.length := by rw [hed3]
  rw [hed3] at a1
  refine AWP.seqReg (by kernel_rfl) (fun E K hE hK => ?_); simp -implicitDefEqProofs only [go_sem, ↓reduceIte, Nat.reduceEqDiff, Nat.reduceAdd, Nat.reduceLT, Nat.reduceLeDiff, reduceCtorEq, Int.toNat_natCast, e7, hV, w1, hel3, a1, rowB]
  refine hK _ _ _ ?_; clear hE hK K E
  refine AWP.block ?_
  refine AWP.loopM 9 (fun m st => ∃ i, i ≤ s.ed.length ∧ m = s.ed.length - i ∧ LrM s3 dir h b (s.t.map Fl.name ++ (s.ed.take i).map Ed.name) st ∧ st.t 77 = .one (.win (b + 4) ev 0 s.ed.length ec) ∧ st.t 78 = IntV s.ed.length ∧ st.t 79 = IntV i ∧ st.h (b + 4) = some (rowB ev (s.ed.map encEd) TE)) s.ed.length rfl ⟨0, Nat.zero_le _, rfl, ⟨rfl, by exact Ecf @e3, by exact Ecf @e5, by exact Ecf @e6, by exact Ecf @e7, hd, h2, hV, ho, hw, ver, cap, by exact Erf @e4, by rw [List.take_zero, List.map_nil, List.append_nil]; exact hrow⟩, by exact Er, by exact Er, by exact Er, a1⟩ ?_
  clear hM e3 e5 e6 e7 hd h2 hV ho hw e4 hrow w1 w3 w4 a1
  rintro m ⟨t, hh, n⟩ ⟨i, hi, rfl, ⟨hn0, e3, e5, e6, e7, hd, h2, hV, ho, hw, ver, cap, e4, hrow⟩, e77, e78, e79, a1⟩ hn1
  simp only at hn0 e3 e5 e6 e7 hd h2 hV ho hw e4 hrow e77 e78 e79 a1 hn1
  subst hn0
  refine Rkf (jn2 @e78 @e79) ?_
  refine AWP.seq ?_
  by_cases hlt : (i : Int) < s.ed.length
  ·have w9 := PdSt.w_add1 (a := i) (by omega)
   have hi2 : i < s.ed.length := by omega
   obtain ⟨x, hx⟩ : ∃ x, s.ed[i] = x := ⟨_, rfl⟩
   have hpart := row_part TE (okEs_ed s.ed) (i := i) (e := encEd x) (by rw [List.getElem?_map, List.getElem?_eq_getElem hi2, hx]; rfl)
   have hlE : (List.map Cell.p (s.ed.map encEd).flatten ++ TE).length = s.ed.length * 5 + TE.length := by rw [List.length_append, List.length_map, okEs_len (okEs_ed _), List.length_map]
   have a1' : hh (b + 4) = some ⟨ev, List.map Cell.p (s.ed.map encEd).flatten ++ TE⟩ := a1
   generalize List.map Cell.p (s.ed.map encEd).flatten ++ TE = LE at hpart hlE a1'
   have htk : s.t.map Fl.name ++ (s.ed.take (i + 1)).map Ed.name = (s.t.map Fl.name ++ (s.ed.take i).map Ed.name) ++ [x.name] := by
    rw [List.take_add_one, List.getElem?_eq_getElem hi2, hx, List.map_append, List.append_assoc]; rfl
   have hll : (s.t.map Fl.name ++ (s.ed.take i).map Ed.name).length ≤ 600 := by simp; omega
   obtain ⟨l0, hl0⟩ : ∃ l0, s.t.map Fl.name ++ (s.ed.take i).map Ed.name = l0 := ⟨_, rfl⟩
   rw [hl0] at htk hll e4 hrow
   refine Btf @hlt ?_
   refine AWP.skip ?_
   refine Ev ?_
   refine AWP.seq ?_
   refine AWP.block ?_
   refine AWP.seqReg (by kernel_rfl) (fun E K hE hK => ?_); simp -implicitDefEqProofs only [go_sem, ↓reduceIte, Nat.reduceEqDiff, Nat.reduceAdd, Nat.reduceLT, Nat.reduceLeDiff, reduceCtorEq, Int.toNat_natCast, e77, e79, a1', hlt, hpart, encEd]
   repeat (refine ⟨by omega, ?_⟩)
   refine hK _ _ _ ?_; clear hE hK K E
   refine Raf @e4 (fun E K hE hK => ?_)
   refine BiR.of ?_
   refine app_st (m := 1) (fs := [encS x.name]) ((hrow.ne (by omega)).ne (by omega)) (okEs_n _) (okEs_n [x.name]) (srcA_row (sz := 1) (m := 1) (es := [encS x.name]) (T := []) 0 (upd_same _ _ _) (okEs_n [x.name]) (by simp) (.inl rfl)) (by rw [List.length_map]) rfl (by omega) (fun cap' T' z1 z2 => ?_)
   refine Ev ?_
   refine hK _ _ _ ?_; clear hE hK K E
   refine Raf (jn2 @e79 @w9) (fun E K hE hK => ?_); refine hK _ _ _ ?_; clear hE hK K E
   have g : ∀ y, y < b + 8 → (upd (upd (upd hh (b + 9) ⟨0, (encEd x).map .p⟩) (b + 10) ⟨0, [.p (.v (.string (mkS x.name)))]⟩) (b + 8) (rowB (ver + 1) (List.map encS l0 ++ [encS x.name]) T')) y = hh y := fun y hy => (upd_ne _ _ _ _ (show y ≠ b + 8 by omega)).trans ((upd_ne _ _ _ _ (show y ≠ b + 10 by omega)).trans (upd_ne _ _ _ _ (show y ≠ b + 9 by omega)))
   refine ⟨(by decide : 9 ≤ 11), s.ed.length - (i + 1), by omega, i + 1, by omega, rfl, LrM.cut ⟨_, b, ι, h, w, x0⟩ rfl hlow ⟨rfl, by exact Ecf @e3, by exact Ecf @e5, by exact Ecf @e6, by exact Ecf @e7, (g _ (by omega)).trans hd, (g _ (by omega)).trans h2, (g _ (by omega)).trans hV, fun id hid => (g id (by omega)).trans (ho id hid), hw.of (g _ (by omega)) (g _ (by omega)) (g _ (by omega)) (g _ (by omega)), ver + 1, cap', ?_, ?_⟩, by refine Evf @e77 ?_; exact cutV_win (by omega), by exact Ecf @e78, by exact Er, ?_⟩
   ·rw [htk, List.length_append]; exact Er
   ·rw [htk, List.map_append]; exact RowAt.new z1 z2
   ·exact cutH_same (by omega) ((g _ (by omega)).trans a1) (lowCs_app (lowCs_p _ _) (lowCs_mono (Nat.zero_le _) a3))
  ·refine Bff @hlt ?_
   refine AWP.exit ?_
   refine Ev ?_
   have hie : i = s.ed.length := by omega
   subst hie
   rw [List.take_length] at e4 hrow
   exact ⟨rfl, by exact Ecf @e3, by exact Ecf @e5, by exact Ecf @e6, by exact Ecf @e7, hd, h2, hV, ho, hw, ver, cap, by (first | (simp -implicitDefEqProofs only [go_sem, ↓reduceIte, Nat.reduceEqDiff, Nat.reduceAdd, Nat.reduceLT, Nat.reduceLeDiff, reduceCtorEq, Int.toNat_natCast, e4, allN]; first | done | rfl) | rfl), hrow⟩
 clear hM st
 rintro ⟨t, hh, n⟩ ⟨rfl, e3, e5, e6, e7, hd, h2, hV, ho, hw, ver, cap, e4, hrow⟩
 simp only at e3 e5 e6 e7 hd h2 hV ho hw e4 hrow
 have hokl : ∀ p ∈ allN s, chkN p = 0 := fun p hp => by
  rcases List.mem_append.1 hp with hp | hp
  ·obtain ⟨f, hf, rfl⟩ := List.mem_map.1 hp
   exact mayF_chk (tabF_may (checkT_zero.1 o.t).2 f hf)
  ·obtain ⟨x, hx, rfl⟩ := List.mem_map.1 hp
   exact mayE_chk (o.may x hx)
 obtain ⟨d, hdl⟩ := el_of (allN s) (fun p hp => .inr (hokl p hp))
 have hds : d.size = (allN s).length := by rw [← hdl, List.length_map, Array.length_toList]
 have hall : (allN s).length ≤ 600 := by unfold allN; rw [List.length_append, List.length_map, List.length_map]; omega
 obtain ⟨T, r1, r2, r3⟩ := hrow
 have hq : (allN s).map encS = d.toList.map PdSt.encQ := by rw [← hdl, List.map_map]; rfl
 rw [hq] at r1 r2
 rw [List.length_map, Array.length_toList] at r2
 rw [← hds] at e4
 have kP : PdSt.PdAt hh (b + 8) ver d T := ⟨r1, r3, by omega⟩
 have k1 := PdSt.sortFunc_ok cmpQ_stage swo_stage (b := b + 9) (cap := cap) kP (by omega)
 have hsz := PdSt.srtQ_size swo_stage d
 obtain ⟨d1, hd1⟩ : ∃ d1, PdSt.srtQ zS d = d1 := ⟨_, rfl⟩
 have hsrt := srtS_ok d
 unfold srtS at hsrt
 rw [hd1] at k1 hsz hsrt
 have g1 : ∀ y, y < b + 8 → (upd hh (b + 8) (PdSt.rowQ ver d1 T)) y = hh y := fun y hy => upd_ne _ _ _ _ (n8 y hy)
 have kP1 : PdSt.PdAt (upd hh (b + 8) (PdSt.rowQ ver d1 T)) (b + 8) ver d1 T := ⟨upd_same _ _ _, r3, by omega⟩
 have k2 := PdSt.compact_ok (b := b + 9) (cap := cap) kP1 (by omega) (by omega)
 rw [hsz] at k2
 refine Rgf @e4 (fun E K hE hK => ?_)
 refine Us k1 body_64 ?_
 refine hK _ _ _ ?_; clear hE hK K E
 refine Rgf @e4 (fun E K hE hK => ?_)
 refine CallR.use k2 body_67 ?_
 rintro _ h3 ⟨rfl, T2, t21, t22, rfl⟩
 obtain ⟨l2, hl2⟩ : ∃ l2, PdSt.cpt d1 d.size = l2 := ⟨_, rfl⟩
 have hl2n : l2.length ≤ d.size := by rw [← hl2]; exact (PdSt.cpt_len d1 d.size).1
 rw [hl2] at t22 hsrt ⊢
 have hh3 : upd (upd hh (b + 8) (PdSt.rowQ ver d1 T)) (b + 8) (rowB ver (List.map PdSt.encQ l2) T2) = upd hh (b + 8) (rowB ver (List.map PdSt.encQ l2) T2) := by
  funext y
  by_cases e : y = b + 8
  ·subst e; rw [upd_same, upd_same]
  ·rw [upd_ne _ _ _ _ e, upd_ne _ _ _ _ e, upd_ne _ _ _ _ e]
 rw [hh3]
 obtain ⟨hF, hhF⟩ : ∃ hF, upd hh (b + 8) (rowB ver (List.map PdSt.encQ l2) T2) = hF := ⟨_, rfl⟩
 have hFb : hF (b + 8) = some (rowB ver (List.map PdSt.encQ l2) T2) := by rw [← hhF]; exact upd_same _ _ _
 have hFo : ∀ y, y < b + 8 → hF y = hh y := fun y hy => by rw [← hhF]; exact upd_ne _ _ _ _ (n8 y hy)
 rw [hhF]
 clear hh3 hhF k1 k2 kP1 g1 r1 kP
 refine Evf (jn2 @e3 @e7) ?_
 have o3 : WhS s := ⟨by omega, o.ris, by omega, fun x hx => by have := mayE_data (o.may x hx); omega, fun x hx => mayE_chk (o.may x hx)⟩
 have hmem : ∀ v ∈ l2, chkN v.1 = 0 := fun v hv => by
  have := (hsrt.2 v).1 hv
  exact hokl v.1 (by rw [← hdl]; exact List.mem_map.2 ⟨v, this, rfl⟩)
 have hwh : ∀ p, whatS s3 p = whatS s p := fun p => what_of hed3 ht3
 have hfn : PdSt.FnAt 68 [.ptr (b + 1) 0 0, .ptr (b + 7) 0 0] (fun v => !isIn s dir v.1) l2 hF (b + 9) (b + 8) := fun h' b' hb' hhh v hv => by
  have e : ∀ y, y < b + 8 → h' y = hh y := fun y hy => (hhh y (by omega) (n8 y hy)).trans (hFo y hy)
  have o4 : WhS s3 := ⟨by rw [ht3]; exact o3.t, by rw [hed3]; exact o3.ris, by rw [hed3]; exact o3.ed, by rw [hed3]; exact o3.data, by rw [hed3]; exact o3.chk⟩
  have := slist1_ok o4 hdir (hmem v hv) (h := h') (X := b + 1) (V := b + 7) b' ((e _ (by omega)).trans hd) ((e _ (by omega)).trans hV) (hw.of (e _ (by omega)) (e _ (by omega)) (e _ (by omega)) (e _ (by omega))) (by omega) (by omega) (by omega) (by omega)
  have hi : isIn s3 dir v.1 = isIn s dir v.1 := by unfold isIn; rw [hwh]
  rw [hi] at this
  exact this
 have kP2 : PdSt.PdAt hF (b + 8) ver l2.toArray T2 := ⟨hFb, t21, by simp; omega⟩
 have k3 := PdSt.deleteO_ok 68 [.ptr (b + 1) 0 0, .ptr (b + 7) 0 0] (fun v => !isIn s dir v.1) (b := b + 9) (cap := cap) kP2 (by omega) body_68 (by simp [lowCs, lowC]) (by simp; omega) hfn
 rw [show l2.toArray.size = l2.length by simp, show l2.toArray.toList = l2 from rfl] at k3
 refine CallR.use k3 body_66 ?_
 rintro _ h4 ⟨rfl, T3, t31, t32, rfl⟩
 obtain ⟨l3, hl3⟩ : ∃ l3, (l2.filter fun v => !(fun v => !isIn s dir v.1) v) = l3 := ⟨_, rfl⟩
 rw [hl3] at t32 ⊢
 refine Ev ?_
 refine hK _ _ _ ?_; clear hE hK K E
 have hres : Ris nmQ (l3.map (·.1)) ∧ ∀ p, p ∈ l3.map (·.1) ↔ p ∈ allN s ∧ isIn s dir p = true := by
  constructor
  ·refine hsrt.1.sub ?_
   rw [← hl3]
   exact (List.filter_sublist).map _
  ·intro p
   rw [← hl3, ← hdl]
   simp only [List.mem_map, List.mem_filter, Bool.not_not]
   constructor
   ·rintro ⟨v, ⟨hv, hi⟩, rfl⟩
    exact ⟨⟨v, (hsrt.2 v).1 hv, rfl⟩, hi⟩
   ·rintro ⟨⟨v, hv, rfl⟩, hi⟩
    exact ⟨v, ⟨(hsrt.2 v).2 hv, hi⟩, rfl⟩
 obtain ⟨hG, hhG⟩ : ∃ hG, upd hF (b + 8) (rowB ver (List.map PdSt.encQ l3) T3) = hG := ⟨_, rfl⟩
 have hGb : hG (b + 8) = some (rowB ver (List.map PdSt.encQ l3) T3) := by rw [← hhG]; exact upd_same _ _ _
 have hGo : ∀ y, y < b + 8 → hG y = hh y := fun y hy => by rw [← hhG]; exact (upd_ne _ _ _ _ (n8 y hy)).trans (hFo y hy)
 rw [hhG]
 clear hhG k3 kP2 hfn hFb hFo hF
 have hw1 := hw.of (hGo (b + 3) (by omega)) (hGo (b + 4) (by omega)) (hGo (b + 5) (by omega)) (hGo (b + 6) (by omega))
 have hV1 := (hGo (b + 7) (by omega)).trans hV
 have h21 := (hGo (b + 2) (by omega)).trans h2
 have hl3q : List.map PdSt.encQ l3 = (l3.map (·.1)).map encS := by rw [List.map_map]; rfl
 have hl3n : l3.length = (l3.map (·.1)).length := by rw [List.length_map]
 rw [hl3q] at hGb
 rw [hl3n] at t32 ⊢
 obtain ⟨l4, hl4⟩ : ∃ l4, l3.map (·.1) = l4 := ⟨_, rfl⟩
 rw [hl4] at hGb t32 hres ⊢
 obtain ⟨ev, ec, nv, nc, dv, dc, w1, w2, w3, w4⟩ := hw1.w
 have nV2 : ¬ b + 7 = b + 2 := by omega
 have nW2 : ¬ b + 3 = b + 2 := by omega
 refine AWP.seqRegD [] [] [b + 2] mixed (by kernel_rfl) (by kernel_rfl) (fun K hK => .inl ?_) (by kernel_rfl); simp -implicitDefEqProofs only [go_sem, ↓reduceIte, Nat.reduceEqDiff, Nat.reduceAdd, Nat.reduceLT, Nat.reduceLeDiff, reduceCtorEq, Int.toNat_natCast, e5, e7, hV1, w1, h21, nV2, nW2]
 refine ⟨?_, sub_at _ h21, ?_⟩
 ·obtain ⟨T5, x1, _⟩ := w2
  obtain ⟨T6, y1, _⟩ := w3
  obtain ⟨T7, z1, _⟩ := w4
  rw [x1, y1, z1]; simp [rowB]
 refine hK _ _ _ ?_; clear hK K
 have nr : ∀ x y, x < y → ¬ b + x = b + y := fun x y hxy => by omega
 have nr' : ∀ x y, y < x → ¬ b + x = b + y := fun x y hxy => by omega
 refine AWP.frzAt (b + 2) 2 (gb := ⟨0, [.p (.v (.int .u64 s3.gen)), .p (.sl 6 (s3.t.map encF)), .win (b + 4) ev 0 s3.ed.length ec, .win (b + 5) nv 0 s3.names.length nc, .win (b + 6) dv 0 s3.dirs.length dc]⟩) (upd_same _ _ _) rfl (w2.ne (nr' 4 2 (by omega))) (okEs_ed s3.ed) (by rw [List.length_map]) (nr 2 4 (by omega)) ?_
 refine AWP.frzAt (b + 2) 3 (gb := ⟨0, [.p (.v (.int .u64 s3.gen)), .p (.sl 6 (s3.t.map encF)), .p (.sl 5 (s3.ed.map encEd)), .win (b + 5) nv 0 s3.names.length nc, .win (b + 6) dv 0 s3.dirs.length dc]⟩) (upd_same _ _ _) rfl (((w3.ne (nr' 5 2 (by omega))).del (nr' 5 4 (by omega))).ne (nr' 5 2 (by omega))) (okEs_str s3.names) (by rw [List.length_map]) (nr 2 5 (by omega)) ?_
 have hrG : RowAt hG (b + 8) ver cap 1 (l4.map encS) := ⟨T3, hGb, by rw [List.length_map]; omega, t31⟩
 refine AWP.frzRow 4 (by exact Er) (((((hrG.ne (nr' 8 2 (by omega))).del (nr' 8 4 (by omega))).ne (nr' 8 2 (by omega))).del (nr' 8 5 (by omega))).ne (nr' 8 2 (by omega))) (okEs_str l4) (by rw [List.length_map]) ?_
 refine AWP.ret ?_
 have dn : ∀ (hh : Heap) (x y : Nat), x < b → b ≤ y → delH hh y x = hh x := fun hh x y hx hy => delH_ne _ _ _ (by omega)
 have un : ∀ (hh : Heap) (x y : Nat) (B : Blk), x < b → b ≤ y → upd hh y B x = hh x := fun hh x y B hx hy => upd_ne _ _ _ _ (by omega)
 have hdl : (s3.dirs.map encS).length = s3.dirs.length := List.length_map _
 obtain ⟨T7, z1, z2, z3⟩ := w4
 have h6 : ∀ B1 B2 B3, delH (upd (delH (upd (delH (upd hG (b + 2) B1) (b + 4)) (b + 2) B2) (b + 5)) (b + 2) B3) (b + 8) (b + 6) = hG (b + 6) := fun B1 B2 B3 => by
  rw [delH_ne _ _ _ (nr 6 8 (by omega)), upd_ne _ _ _ _ (nr' 6 2 (by omega)), delH_ne _ _ _ (nr' 6 5 (by omega)), upd_ne _ _ _ _ (nr' 6 2 (by omega)), delH_ne _ _ _ (nr' 6 4 (by omega)), upd_ne _ _ _ _ (nr' 6 2 (by omega))]
 refine Ends.keepL [(b + 6, rowB dv (s3.dirs.map encS) T7, (rowB dv (s3.dirs.map encS) T7).cells)] rfl H (fun id hid => ?_) (fun y hy => ?_) (by simp) (r0 := .tup [ListV l4, .agg (sgD s3 (b + 6) dv dc), IntV 0]) (by rw [show Tryz.f25.results.toList = [.tmp 4, .cell 5 63, .tmp 6] from rfl]; (first | (simp -implicitDefEqProofs only [go_sem, ↓reduceIte, Nat.reduceEqDiff, Nat.reduceAdd, Nat.reduceLT, Nat.reduceLeDiff, reduceCtorEq, Int.toNat_natCast, e5, nr 2 8 (by omega), nr 2 6 (by omega), delH, sgD]; first | done | rfl) | rfl)) (r := .tup [ListV l4, .agg (sgD s3 b dv dc), IntV 0]) (renV_tup3 (.one (renC_p _)) (.agg rfl fun i c d hc hd => ?_) (.one (renC_p _))) (fun h' hk hlo => ?_)
 ·have hid' : id < b := hid
  exact (dn _ _ _ hid' (by omega)).trans ((un _ _ _ _ hid' (by omega)).trans ((dn _ _ _ hid' (by omega)).trans ((un _ _ _ _ hid' (by omega)).trans ((dn _ _ _ hid' (by omega)).trans ((un _ _ _ _ hid' (by omega)).trans ((hGo id (by omega)).trans (ho id hid')))))))
 ·simp only [List.mem_cons, List.not_mem_nil, or_false] at hy
  subst hy
  exact ⟨Nat.le_add_right _ _, (h6 _ _ _).trans z1, rfl, fun i c d q1 q2 => low0_row _ _ _ z3 _ _ _ i c d q1 q2⟩
 ·match i with
  | 0 | 1 | 2 | 3 => simp [sgD] at hc hd; subst hc; subst hd; exact renC_p _
  | 4 => simp [sgD] at hc hd; subst hc; subst hd; exact .inr (.inr (.inr (.inl ⟨0, b + 6, _, dv, 0, _, dc, rfl, rfl, rfl⟩)))
  | i + 5 => simp [sgD] at hc
 ·exact ⟨l4, s3, dv, dc, hls, rfl, ⟨T7, hk 0 _ rfl, by rw [hdl] at z2 ⊢; omega, z3⟩, hlo, hres.1, hres.2⟩
theorem slistE_ok (s : Sg) (dir : S) (hbad : (lstS keyR s dir).2 ≠ 0) (z : SzS s) (h : Heap) (b : Nat) : ACalls Tryz.prog 25 [SgV s, StrV dir] h b 0 (lisR s dir h) := by
 refine ACalls.enter Tryz.func25 rfl (by simp [Tryz.ntmps25]) (fun ι w hn H => ?_)
 have hlow := H.lowCells
 refine Rk ?_
 refine Am.AWP.mid (fun st => ∃ V, LisM dir h b V st ∧ LisC b s (checkS keyR s) V st) ?_ ?_
 ·have q8 : ∀ id, id < b + 3 → ¬ id = b + 7 := fun id hid => by omega
  have q4 : ∀ id, id < b + 3 → ¬ id = b + 4 := fun id hid => by omega
  have qlow : ∀ id, id < b → ¬ id = b ∧ ¬ id = b + 1 ∧ ¬ id = b + 2 := fun id hid => by omega
  by_cases hs : checkS keyR s = 0
  ·refine Ra (fun E K hE hK => ?_)
   refine CallR.use ((sstart_ok s [] z (by simp) hs _ (b + 3)).argNil ⟨lessV.refl _, .nil 1, trivial⟩) body_57 ?_
   rintro _ h2 ⟨rfl, k1, k2⟩
   obtain ⟨ev, ec, nv, nc, dv, dc, w1, _⟩ := k1.w
   refine Evf @w1 ?_
   refine hK _ _ _ ?_; clear hE hK K E
   refine ⟨b + 7, ⟨by exact Er, by exact Er, by exact Er, by exact Er, by exact Er, by exact Er, (upd_ne _ _ _ _ (q8 _ (by omega))).trans ((k2 (b + 1) (by omega)).trans (by exact Er)), (upd_ne _ _ _ _ (q8 _ (by omega))).trans ((k2 (b + 2) (by omega)).trans (by exact Er)), upd_same _ _ _, fun id hid => ?_⟩, .inr ⟨rfl, rfl, ?_⟩⟩
   ·obtain ⟨a1, a2, a3⟩ := qlow id hid
    exact (upd_ne _ _ _ _ (q8 _ (by omega))).trans ((k2 id (by omega)).trans (by exact Erf (jn3 @a1 @a2 @a3)))
   ·rw [hs]
    exact k1.of (upd_ne _ _ _ _ (by omega)) (upd_ne _ _ _ _ (by omega)) (upd_ne _ _ _ _ (by omega)) (upd_ne _ _ _ _ (by omega))
  ·refine Ra (fun E K hE hK => ?_)
   refine CallR.use ((sstartBad_ok s [] z (by simp) hs _ (b + 3)).argNil ⟨lessV.refl _, .nil 1, trivial⟩) body_57 ?_
   rintro _ h2 ⟨rfl, k1⟩
   subst k1
   refine Ev ?_
   refine hK _ _ _ ?_; clear hE hK K E
   refine ⟨b + 4, ⟨by exact Er, by exact Er, by exact Er, by exact Er, by exact Er, by exact Er, by exact Er, by exact Er, by exact Er, fun id hid => ?_⟩, .inl ⟨hs, rfl, rfl, by exact Er⟩⟩
   have q3 : ¬ id = b + 3 := by omega
   have q4 : ¬ id = b + 4 := by omega
   obtain ⟨a1, a2, a3⟩ := qlow id hid
   exact Ecf (jn5 @a1 @a2 @a3 @q3 @q4)
 rintro ⟨t, hh, n⟩ ⟨V, hM, hC⟩
 refine Am.AWP.mid (fun st => ∃ V, LisM dir h b V st ∧ LisC b s (lstE keyR s dir) V st) ?_ ?_
 ·have hM0 := hM
  obtain ⟨e2, e3, e4, e5, e6, e7, hd, h2, hV, ho⟩ := hM0
  simp only at e2 e3 e4 e5 e6 e7 hd h2 hV ho
  rcases hC with ⟨hs, hn1, rfl, hw⟩ | ⟨hn1, rfl, hw⟩
  ·simp only at hn1 hw; subst hn1
   have c' : (checkS keyR s = 0) = False := eq_false hs
   have hl : lstE keyR s dir = checkS keyR s := by unfold lstE; rw [if_neg (fun q => hs q.1)]
   rw [hl]
   refine Rkf (jn4 @e7 @hV @hw @c') ?_
   refine Bf ?_
   exact AWP.skip ⟨b + 4, hM.of (by exact Er) (by exact Er) (by exact Er) (by exact Er) (by exact Er) (by exact Er) (fun _ _ => rfl), .inl ⟨hs, rfl, rfl, hw⟩⟩
  ·simp only at hn1 hw; subst hn1
   have hw0 := hw
   obtain ⟨ev, ec, nv, nc, dv, dc, w1, w2, w3, w4⟩ := hw0.w
   by_cases hs : checkS keyR s = 0
   ·have c' : (checkS keyR s = 0) = True := eq_true hs
    by_cases hd0 : dir = []
    ·have cd : (dir = []) = True := eq_true hd0
     have hl : lstE keyR s dir = checkS keyR s := by unfold lstE; rw [if_neg (fun q => q.2 hd0)]
     rw [hl]
     refine Rkf (jn2 @e7 (jn7 @e3 @hV @w1 @hd @c' @mkS_list @cd)) ?_
     refine Bf ?_
     exact AWP.skip ⟨b + 7, hM.of (by exact Er) (by exact Er) (by exact Er) (by exact Er) (by exact Er) (by exact Er) (fun _ _ => rfl), .inr ⟨rfl, rfl, hw⟩⟩
    ·have cd : (dir = []) = False := eq_false hd0
     have hl : lstE keyR s dir = chkN dir := by unfold lstE; rw [if_pos ⟨hs, hd0⟩]
     rw [hl]
     refine Rkf (jn2 @e7 (jn7 @e3 @hV @w1 @hd @c' @mkS_list @cd)) ?_
     refine Bt ?_
     have nV3 : ¬ b + 7 = b + 3 := by omega
     have n13 : ¬ b + 1 = b + 3 := by omega
     refine AWP.rgS [] [] (ers hh (b + 3)) (sub_ers _ _) mixed (by kernel_rfl) (by kernel_rfl) (fun K hK => ?_) (by kernel_rfl); simp -implicitDefEqProofs only [go_sem, ↓reduceIte, Nat.reduceEqDiff, Nat.reduceAdd, Nat.reduceLT, Nat.reduceLeDiff, reduceCtorEq, Int.toNat_natCast, e7, e3, hV, hd, w1, nV3, n13]
     refine CallD.use (Check_ok (mkS dir) _ _) body_31 ?_
     rintro _ h_ ⟨rfl, e_⟩
     rw [e_]; clear e_ h_
     refine ⟨sub_ers _ _, ?_⟩
     refine Evf @w1 ?_
     refine ⟨sub_at _ w1, ?_⟩
     refine hK _ _ _ ?_; clear hK K
     exact ⟨b + 7, hM.of (by exact Er) (by exact Er) (by exact Er) (by exact Er) (by exact Er) (by exact Er) (fun id hid => upd_ne _ _ _ _ (by omega)), .inr ⟨rfl, rfl, ⟨ev, ec, nv, nc, dv, dc, upd_same _ _ _, w2.ne (by omega), w3.ne (by omega), w4.ne (by omega)⟩, hw.d1, hw.d2, hw.d3, hw.d4, hw.d5, hw.d6⟩⟩
   ·have c' : (checkS keyR s = 0) = False := eq_false hs
    have hl : lstE keyR s dir = checkS keyR s := by unfold lstE; rw [if_neg (fun q => hs q.1)]
    rw [hl]
    refine Rkf (jn4 @e7 @hV @w1 @c') ?_
    refine Bf ?_
    exact AWP.skip ⟨b + 7, hM.of (by exact Er) (by exact Er) (by exact Er) (by exact Er) (by exact Er) (by exact Er) (fun _ _ => rfl), .inr ⟨rfl, rfl, hw⟩⟩
 clear hM hC t hh n V
 rintro ⟨t, hh, n⟩ ⟨V, hM, hC⟩
 refine Am.AWP.mid (fun st => ∃ V, LisM dir h b V st ∧ LisC b (lst3 s dir).1 (lst3 s dir).2 V st) ?_ ?_
 ·have hM0 := hM
  obtain ⟨e2, e3, e4, e5, e6, e7, hd, h2, hV, ho⟩ := hM0
  simp only at e2 e3 e4 e5 e6 e7 hd h2 hV ho
  by_cases hs : lstE keyR s dir = 0
  ·rcases hC with ⟨hs', _⟩ | ⟨hn1, rfl, hw⟩
   ·exact absurd hs hs'
   simp only at hn1 hw; subst hn1
   have c' : (lstE keyR s dir = 0) = True := eq_true hs
   obtain ⟨o, hdir⟩ := lstE_zero.1 hs
   have hl : lst3 s dir = ({ s with dirs := (putE s.dirs 0 dir).1 }, (putE s.dirs 0 dir).2) := by unfold lst3; rw [if_neg (by rw [hs]; simp)]
   rw [hl]
   rw [hs] at hw
   have hw0 := hw
   obtain ⟨ev, ec, nv, nc, dv, dc, w1, w2, w3, w4⟩ := hw0.w
   refine Rkf (jn4 @e7 @hV @w1 @hs) ?_
   refine Bt ?_
   have nV3 : ¬ b + 7 = b + 3 := by omega
   have n13 : ¬ b + 1 = b + 3 := by omega
   have nV6 : ¬ b + 7 = b + 6 := by omega
   have n16 : ¬ b + 1 = b + 6 := by omega
   have n36 : ¬ b + 3 = b + 6 := by omega
   refine AWP.known ?_
   intro hfree
   refine AWP.rgS [40] [] (ers (delH hh (b + 6)) (b + 3)) ((sub_ers _ _).trans (sub_delH _ _)) mixed (by kernel_rfl) (by kernel_rfl) (fun K hK => ?_) (by kernel_rfl); simp -implicitDefEqProofs only [go_sem, ↓reduceIte, Nat.reduceEqDiff, Nat.reduceAdd, Nat.reduceLT, Nat.reduceLeDiff, reduceCtorEq, Int.toNat_natCast, e7, e3, hV, hd, w1, nV3, n13, nV6, n16, n36, delH]
   refine ⟨(sub_ers _ _).trans (sub_delH _ _), ?_⟩
   refine CallD.use (sput_ok s 0 s.dirs dir o.drs.1 (by have := o.dlen; omega) o.drs.2 hdir hh _ (b + 3) (b + 6) dv dc (b + 4) ev ec (b + 5) nv nc (b + 6) dv dc (show b + 3 < b + 8 by omega) (show b + 6 < b + 8 by omega) n36 (show b + 4 < b + 8 by omega) (show b + 5 < b + 8 by omega) (show b + 6 < b + 8 by omega) w1 w4) body_63 ?_
   rintro _ h3 ⟨xv, xc, rfl, g1, g2, g3⟩
   refine ⟨sub_gr2 (b := b + 8) hfree g3 w1 g1, ?_⟩
   obtain ⟨T2, q1, q2, q3⟩ := g2
   have hD3 : delH hh (b + 6) (b + 3) = some ⟨0, swC s 0 (b + 4) ev ec (b + 5) nv nc (b + 6) dv dc⟩ := (delH_ne _ _ _ n36).trans w1
   simp -implicitDefEqProofs only [go_sem, ↓reduceIte, Nat.reduceEqDiff, Nat.reduceAdd, Nat.reduceLT, Nat.reduceLeDiff, reduceCtorEq, Int.toNat_natCast, g1, q1, rowB, hD3]
   refine ⟨(sub_gr2 (c2 := [.p (.v (.int .u64 s.gen)), .p (.sl 6 (s.t.map encF)), .win (b + 4) ev 0 s.ed.length ec, .win (b + 5) nv 0 s.names.length nc, .win (b + 6) xv 0 (putE s.dirs 0 dir).1.length xc, .p (.v (.int .i64 (putE s.dirs 0 dir).2))]) (b := b + 8) hfree (fun id hid a1 a2 => (upd_ne _ _ _ _ a1).trans (g3 id hid a1 a2)) w1 (upd_same _ _ _)), ?_⟩
   refine hK _ _ _ ?_; clear hK K
   have g4 : ∀ id, id < b + 8 → id ≠ b + 3 → id ≠ b + 6 → (upd h3 (b + 3) ⟨0, [.p (.v (.int .u64 s.gen)), .p (.sl 6 (s.t.map encF)), .win (b + 4) ev 0 s.ed.length ec, .win (b + 5) nv 0 s.names.length nc, .win (b + 6) xv 0 (putE s.dirs 0 dir).1.length xc, .p (.v (.int .i64 (putE s.dirs 0 dir).2))]⟩) id = hh id := fun id hid a1 a2 => (upd_ne _ _ _ _ a1).trans (g3 id hid a1 a2)
   exact ⟨b + 7, hM.of (by exact Er) (by exact Er) (by exact Er) (by exact Er) (by exact Er) (by exact Er) (fun id hid => g4 id (by omega) (by omega) (by omega)), .inr ⟨rfl, rfl, ⟨ev, ec, nv, nc, xv, xc, upd_same _ _ _, w2.ofE (g4 _ (by omega) (by omega) (by omega)), w3.ofE (g4 _ (by omega) (by omega) (by omega)), ⟨T2, (upd_ne _ _ _ _ (by omega)).trans q1, q2, q3⟩⟩, hw.d1, hw.d2, hw.d3, hw.d4, hw.d5, hw.d6⟩⟩
  ·have c' : (lstE keyR s dir = 0) = False := eq_false hs
   have hl : lst3 s dir = (s, lstE keyR s dir) := by unfold lst3; rw [if_pos hs]
   rw [hl]
   rcases hC with ⟨_, hn1, rfl, hw⟩ | ⟨hn1, rfl, hw⟩
   ·simp only at hn1 hw; subst hn1
    refine Rkf (jn4 @e7 @hV @hw @c') ?_
    refine Bf ?_
    exact AWP.skip ⟨b + 4, hM.of (by exact Er) (by exact Er) (by exact Er) (by exact Er) (by exact Er) (by exact Er) (fun _ _ => rfl), .inl ⟨hs, rfl, rfl, hw⟩⟩
   ·simp only at hn1 hw; subst hn1
    have hw0 := hw
    obtain ⟨ev, ec, nv, nc, dv, dc, w1, w2, w3, w4⟩ := hw0.w
    refine Rkf (jn4 @e7 @hV @w1 @c') ?_
    refine Bf ?_
    exact AWP.skip ⟨b + 7, hM.of (by exact Er) (by exact Er) (by exact Er) (by exact Er) (by exact Er) (by exact Er) (fun _ _ => rfl), .inr ⟨rfl, rfl, hw⟩⟩
 clear hM hC t hh n V
 rintro ⟨t, hh, n⟩ ⟨V, hM, hC⟩
 obtain ⟨⟨s3, ev3⟩, hl3⟩ : ∃ r, lst3 s dir = r := ⟨_, rfl⟩
 have herr := lst3_err s dir
 have hok := lst3_ok s dir
 rw [hl3] at hC herr hok
 simp only at hC herr hok
 clear hl3
 obtain ⟨e2, e3, e4, e5, e6, e7, hd, h2, hV, ho⟩ := hM
 simp only at e2 e3 e4 e5 e6 e7 hd h2 hV ho
 refine AWP.seq ?_
 by_cases he : ev3 = 0
 case neg =>
  have c' : (ev3 = 0) = False := eq_false he
  rcases hC with ⟨_, hn1, rfl, hw⟩ | ⟨hn1, rfl, hw⟩
  ·simp only at hn1 hw; subst hn1
   have nV : ¬ b + 4 = b + 2 := by omega
   have nW : ¬ b + 3 = b + 2 := by omega
   refine Rkf (jn4 @e7 @hV @hw @c') ?_
   refine Bt ?_
   refine AWP.seqRegD [] [] [b + 2] mixed (by kernel_rfl) (by kernel_rfl) (fun K hK => .inl ?_) (by kernel_rfl); simp -implicitDefEqProofs only [go_sem, ↓reduceIte, Nat.reduceEqDiff, Nat.reduceAdd, Nat.reduceLT, Nat.reduceLeDiff, reduceCtorEq, Int.toNat_natCast, e5, e7, hV, hw, h2, nV, nW]
   refine ⟨sub_at _ (by exact Erf @h2), ?_⟩
   refine hK _ _ _ ?_; clear hK K
   refine AWP.ret ?_
   exact Ends.pure hn H (fun id hid => (upd_ne _ _ _ _ (Nat.ne_of_lt (Nat.lt_add_right 2 hid))).trans (ho id hid)) (r0 := .tup [.one (.p (.v (.slice none 0 0))), .agg zSgC, IntV ev3]) (by rw [show Tryz.f25.results.toList = [.tmp 4, .cell 5 63, .tmp 6] from rfl]; exact Erf @e5) (frz_tup3 (.one (frz_nil 1)) frz_sg0 (.v _)) ⟨rfl, [], by rw [herr he]; rfl, fun _ => rfl, fun q => absurd q (by rw [herr he]; exact he)⟩
  ·simp only at hn1 hw; subst hn1
   obtain ⟨ev, ec, nv, nc, dv, dc, w1, w2, w3, w4⟩ := hw.w
   have nV : ¬ b + 7 = b + 2 := by omega
   have nW : ¬ b + 3 = b + 2 := by omega
   refine Rkf (jn4 @e7 @hV @w1 @c') ?_
   refine Bt ?_
   refine AWP.seqRegD [] [] [b + 2] mixed (by kernel_rfl) (by kernel_rfl) (fun K hK => .inl ?_) (by kernel_rfl); simp -implicitDefEqProofs only [go_sem, ↓reduceIte, Nat.reduceEqDiff, Nat.reduceAdd, Nat.reduceLT, Nat.reduceLeDiff, reduceCtorEq, Int.toNat_natCast, e5, e7, hV, w1, h2, nV, nW]
   refine ⟨sub_at _ (by exact Erf @h2), ?_⟩
   refine hK _ _ _ ?_; clear hK K
   refine AWP.ret ?_
   exact Ends.pure hn H (fun id hid => (upd_ne _ _ _ _ (Nat.ne_of_lt (Nat.lt_add_right 2 hid))).trans (ho id hid)) (r0 := .tup [.one (.p (.v (.slice none 0 0))), .agg zSgC, IntV ev3]) (by rw [show Tryz.f25.results.toList = [.tmp 4, .cell 5 63, .tmp 6] from rfl]; exact Erf @e5) (frz_tup3 (.one (frz_nil 1)) frz_sg0 (.v _)) ⟨rfl, [], by rw [herr he]; rfl, fun _ => rfl, fun q => absurd q (by rw [herr he]; exact he)⟩
 subst he
 exact absurd (by rw [hok rfl]) hbad
theorem Am.ACalls.up {P : Program} {f : FuncId} {args : List AV} {h : Heap} {b m m' : Nat} {R : AV → Heap → Prop} (hm : m ≤ m') (c : ACalls P f args h b m R) : ACalls P f args h b m' R := fun ι w vs hb hh ha =>
 (c ι w vs hb hh ha).mono fun _ w' ⟨v, r, h', ι', he, hR, hp, hv⟩ => by
  have M : Moves ι' h' (b + m) w' ι' h' (b + m') w' := ⟨by omega, fun _ s _ => s, fun _ _ _ => rfl, fun id _ b' e => ⟨b', e, Nat.le_refl _, fun _ => rfl⟩⟩
  refine ⟨v, r, h', ι', he, hR, ⟨hp.outer, hp.fresh, fun id hid => hp.bound id (by omega), ⟨fun id blk e ne => ?_, hp.heap.inj⟩, hp.keeps⟩, hv.move M⟩
  obtain ⟨c, ty, h1, h2, h3⟩ := hp.heap.blk id blk e ne
  exact ⟨c, ty, h1, h2, fun j d u hd hu => (h3 j d u hd hu).move M⟩
def rowD (sz : Nat) (es : List (List PD)) (h : Heap) (id : Nat) (d : Cell) : Prop :=
 (d = .p (.sl sz []) ∧ es = []) ∨ ∃ ver cap, d = .win id ver 0 es.length cap ∧ RowAt h id ver cap sz es
theorem rowD.view {sz : Nat} {es : List (List PD)} {h : Heap} {id : Nat} {d : Cell} (k : rowD sz es h id d) (ho : okEs sz es) : ViewC h (fun _ => true) d (.p (.sl sz es)) := by
 rcases k with ⟨rfl, rfl⟩ | ⟨ver, cap, rfl, T, h1, _, _⟩
 ·exact .same _
 ·have v := view_rowT (D := fun _ => true) (m := es.length) (j := 0) (off := 0) (cap := cap) rfl h1 ho (by omega) (by omega)
  rwa [List.drop_zero, List.take_length] at v
theorem rowD.of {sz : Nat} {es : List (List PD)} {h h' : Heap} {id : Nat} {d : Cell} (k : rowD sz es h id d) (e : h' id = h id) : rowD sz es h' id d := by
 rcases k with k | ⟨ver, cap, h1, h2⟩
 ·exact .inl k
 ·exact .inr ⟨ver, cap, h1, h2.ofE e⟩
def edX (x : Ed) (d : Cell) : List Cell := [.p (.v (.string (mkS x.name))), .p (.v (.bool x.gone)), .p (.v (.float .f64 x.rank)), .p (.v (.string (mkS x.of))), d]
def sgX (s : Sg) (d : Cell) : List Cell := [.p (.v (.int .u64 s.gen)), .p (.sl 6 (s.t.map encF)), .p (.sl 5 (s.ed.map encEd)), .p (.sl 1 (s.names.map encS)), d]
theorem seeA_ok (s : Sg) (p : S) (x : Ed) (m : Sg) (e : Int) (z : SzS s) (hv : seeS keyR s p = (x, m, e)) (h : Heap) (b : Nat) : ACalls Tryz.prog 23 [SgV s, StrV p] h b 1 (fun r h' => ∃ d, r = .tup [.agg (edX x d), SgV m, IntV e] ∧ rowD 1 (x.data.map encO) h' b d ∧ ∀ id, id < b → h' id = h id) := by
 by_cases hd : x.data = []
 ·refine Am.ACalls.up (Nat.zero_le 1) ((ssee_ok s p z h b).mono fun r h' ⟨h1, h2⟩ => ?_)
  rw [hv] at h1
  refine ⟨.p (.sl 1 []), ?_, .inl ⟨rfl, by rw [hd]; rfl⟩, fun id _ => by rw [h2]⟩
  rw [h1]
  show AV.tup [.agg ((encEd x).map .p), _, _] = _
  rw [show (encEd x).map Cell.p = edX x (.p (.sl 1 [])) by unfold edX encEd; rw [hd]; rfl]
 ·have he : e = 0 := by
   by_cases c : e = 0
   ·exact c
   ·exfalso; apply hd
    rw [see_eq] at hv
    split at hv
    ·injection hv with h1 _; rw [← h1]
    ·injection hv with _ h1; injection h1 with _ h1; exact absurd h1.symm c
  subst he
  refine (sseeO_ok s p x m z hv hd h b).mono fun r h' ⟨ver, cap, h1, h2, h3⟩ => ?_
  have hxl : (x.data.map encO).length = x.data.length := List.length_map _
  exact ⟨.win b ver 0 x.data.length cap, h1, .inr ⟨ver, cap, by rw [hxl], h2⟩, h3⟩
theorem lstA_ok (s : Sg) (dir : S) (m : Sg) (e : Int) (z : SzS s) (hv : lstS keyR s dir = (m, e)) (h : Heap) (b : Nat) : ACalls Tryz.prog 25 [SgV s, StrV dir] h b 1 (fun r h' => ∃ d, r = .tup [ListV (if e = 0 then lisF s dir else []), .agg (sgX m d), IntV e] ∧ rowD 1 (m.dirs.map encS) h' b d ∧ ∀ id, id < b → h' id = h id) := by
 by_cases he : e = 0
 ·subst he
  refine (slistO_ok s dir (by rw [hv]) z h b).mono fun r h' ⟨l, m', ver, cap, h0, h1, h2, h3, h4, h5⟩ => ?_
  rw [hv] at h0
  injection h0 with h0 _
  subst h0
  have hxl : (m.dirs.map encS).length = m.dirs.length := List.length_map _
  refine ⟨.win b ver 0 m.dirs.length cap, ?_, .inr ⟨ver, cap, by rw [hxl], h2⟩, h3⟩
  rw [if_pos rfl, ← lisF_eq h4 h5]
  exact h1
 ·have hm : m = zSg := by
   rw [lst_eq] at hv
   split at hv
   ·injection hv with h1 _; exact h1.symm
   ·split at hv
    ·injection hv with h1 _; exact h1.symm
    ·injection hv with _ h1; exact absurd h1.symm he
  refine Am.ACalls.up (Nat.zero_le 1) ((slistE_ok s dir (by rw [hv]; exact he) z h b).mono fun r h' ⟨h2, l, h1, h3, _⟩ => ?_)
  rw [hv] at h1 h3
  refine ⟨.p (.sl 1 []), ?_, .inl ⟨rfl, by rw [hm]; rfl⟩, fun id _ => by rw [h2]⟩
  rw [h1, if_neg he, h3 he, hm]
  rfl
theorem few_rf {s : Sg} (h : fewS s = true) (hr : ∀ x ∈ s.ed, x.rank < 18446744073709551616) : RfS s ∧ s.dirs.length ≤ 999 := by
 unfold fewS at h
 simp only [Bool.and_eq_true, List.all_eq_true, decide_eq_true_eq] at h
 obtain ⟨h1, h2, h3, h4, h5, h6⟩ := h
 unfold fewN at h5 h6
 unfold fewT at h3
 simp only [Bool.and_eq_true, List.all_eq_true, decide_eq_true_eq] at h3 h5 h6
 have he : ∀ x ∈ s.ed, x.name.length ≤ 200 ∧ x.data.length ≤ 200 := fun x hx => by
  have := h1 x hx
  unfold fewE at this
  simp only [Bool.and_eq_true, decide_eq_true_eq] at this
  exact ⟨this.1, this.2.2⟩
 exact ⟨⟨by omega, fun f hf => by have := h3.1 f hf; omega, by omega, fun x hx => by have := (he x hx).1; omega, fun x hx => by have := (he x hx).2; omega, hr, by omega, fun p hp => by have := h5.1 p hp; omega, by omega, fun p hp => by have := h6.1 p hp; omega⟩, by omega⟩
structure Tl5 (s : Sg) (p dir : S) (x : Ed) (m : Sg) (e : Int) (d : Cell) (h : Heap) (b : Nat) (st : St) : Prop where
 ho : ∀ id, id < b → st.h id = h id
 hb : st.h b = some ⟨0, (encSg s).map .p⟩
 hb1 : st.h (b + 1) = some ⟨0, (encSg s).map .p⟩
 k : rowD 1 (x.data.map encO) st.h (b + 2) d
 h3 : st.h (b + 3) = some ⟨0, edX x d⟩
 h4 : st.h (b + 4) = some ⟨0, (encSg m).map .p⟩
 e1 : st.t 1 = StrV p
 e2 : st.t 2 = StrV dir
 e3 : st.t 3 = .one (.ptr b 0 0)
 e7 : st.t 7 = BoolV true
 e8 : st.t 8 = .one (.ptr (b + 1) 0 0)
 e9 : st.t 9 = .one (.ptr (b + 3) 0 0)
 e10 : st.t 10 = .one (.ptr (b + 4) 0 0)
 e11 : st.t 11 = IntV e
theorem Tl5.of {s : Sg} {p dir : S} {x : Ed} {m : Sg} {e : Int} {d : Cell} {h : Heap} {b : Nat} {t t' : Nat → AV} {hh hh' : Heap} {n n' : Nat} (k : Tl5 s p dir x m e d h b ⟨t, hh, n⟩) (et : t' 1 = t 1 ∧ t' 2 = t 2 ∧ t' 3 = t 3 ∧ t' 7 = t 7 ∧ t' 8 = t 8 ∧ t' 9 = t 9 ∧ t' 10 = t 10 ∧ t' 11 = t 11) (eh : ∀ id, id < b + 5 → hh' id = hh id) : Tl5 s p dir x m e d h b ⟨t', hh', n'⟩ := by
 obtain ⟨ho, hb, hb1, k, h3, h4, e1, e2, e3, e7, e8, e9, e10, e11⟩ := k
 exact ⟨fun id hid => (eh id (by omega)).trans (ho id hid), (eh _ (by omega)).trans hb, (eh _ (by omega)).trans hb1, k.of (eh _ (by omega)), (eh _ (by omega)).trans h3, (eh _ (by omega)).trans h4, et.1.trans e1, et.2.1.trans e2, et.2.2.1.trans e3, et.2.2.2.1.trans e7, et.2.2.2.2.1.trans e8, et.2.2.2.2.2.1.trans e9, et.2.2.2.2.2.2.1.trans e10, et.2.2.2.2.2.2.2.trans e11⟩
theorem zSg_sz : SzS zSg := ⟨by decide, by decide, by decide, by decide, fun x hx => by cases hx⟩
theorem see_sz {s m : Sg} {p : S} {x : Ed} {e : Int} (z : RfS s) (hv : seeS keyR s p = (x, m, e)) : SzS m := by
 rw [see_eq] at hv
 have hm : m = zSg ∨ m = (rdF s p).1 := by
  split at hv
  ·injection hv with _ h; injection h with h _; exact .inl h.symm
  ·injection hv with _ h; injection h with h _; exact .inr h.symm
 rcases hm with rfl | rfl
 ·exact zSg_sz
 ·unfold rdF
  split
  ·exact zSg_sz
  ·split
   ·exact zSg_sz
   ·have h1 : (putQ s.names p).length ≤ s.names.length + 1 := set_len
    exact ⟨by show s.t.length ≤ _; have := z.t; omega, by show s.ed.length ≤ _; have := z.ed; omega, by have := z.nm; show (putQ s.names p).length ≤ _; omega, by show s.dirs.length ≤ _; have := z.dr; omega, fun x hx => by have := z.data x hx; omega⟩
theorem see_data {s m : Sg} {p : S} {x : Ed} {e : Int} (z : RfS s) (hv : seeS keyR s p = (x, m, e)) : x.data.length ≤ 1000 := by
 rw [see_eq] at hv
 split at hv
 ·injection hv with h _; rw [← h]; simp
 ·rename_i hne
  injection hv with h _
  rw [← h]
  have he : (rdF s p).1.ed = s.ed := by
   unfold rdF at hne ⊢
   split
   ·rename_i c; rw [if_pos c] at hne; exact absurd (by decide) hne
   ·rename_i c
    rw [if_neg c] at hne
    split
    ·rename_i c2; rw [if_pos c2] at hne; exact absurd (by decide) hne
    ·rfl
  unfold whatS
  rw [he]
  cases hg : getK nmE p s.ed with
  | some y => exact z.data y (getK_mem hg).1
  | none =>
    simp only
    split <;> simp [goneE]
theorem lst_sz {s m : Sg} {dir : S} {e : Int} (z : RfS s) (hv : lstS keyR s dir = (m, e)) : SzS m := by
 rw [lst_eq] at hv
 split at hv
 ·injection hv with h _; rw [← h]; exact zSg_sz
 ·split at hv
  ·injection hv with h _; rw [← h]; exact zSg_sz
  ·injection hv with h _
   rw [← h]
   have h1 : (putQ s.dirs dir).length ≤ s.dirs.length + 1 := set_len
   exact ⟨by show s.t.length ≤ _; have := z.t; omega, by show s.ed.length ≤ _; have := z.ed; omega, by show s.names.length ≤ _; have := z.nm; omega, by have := z.dr; show (putQ s.dirs dir).length ≤ _; omega, fun x hx => by have := z.data x hx; omega⟩
theorem oneA_ok {x : Ed} {d : Cell} {h : Heap} {id : Nat} (k : rowD 1 (x.data.map encO) h id d) (b : Nat) : ACalls Tryz.prog 27 [.agg (edX x d), EdV x] h b 0 (fun r h' => r = BoolV true ∧ h' = h) :=
 (sOne_ok x noH b).lend (.cons (.agg rfl fun i c e hc he => by
  match i with
  | 0 | 1 | 2 | 3 => simp [edX, encEd] at hc he; subst hc; subst he; exact .same _
  | 4 => simp [edX, encEd] at hc he; subst hc; subst he; exact k.view (okEs_oct _)
  | i + 5 => simp [edX] at hc) (.cons (.same _) .nil)) (.one _)
theorem sameA_ok {m : Sg} {d : Cell} {h : Heap} {id : Nat} (z : SzS m) (k : rowD 1 (m.dirs.map encS) h id d) (b : Nat) : ACalls Tryz.prog 28 [.agg (sgX m d), SgV m] h b 0 (fun r h' => r = BoolV true ∧ h' = h) :=
 (rSameS_ok m z noH b).lend (.cons (.agg rfl fun i c e hc he => by
  match i with
  | 0 | 1 | 2 | 3 => simp [sgX, encSg] at hc he; subst hc; subst he; exact .same _
  | 4 => simp [sgX, encSg] at hc he; subst hc; subst he; exact k.view (okEs_str _)
  | i + 5 => simp [sgX] at hc) (.cons (.same _) .nil)) (.one _)
structure VU (n : Nat) (L : List Cell) : Prop where
 len : n ≤ L.length
 at_ : ∀ i, i < n → ∃ v, L[i]? = some (.p (.v (.int .u8 v)))
 low : lowCs 0 L = true
theorem take_set {L : List Cell} {i : Nat} (hi : i < L.length) (c : Cell) : L.take i ++ c :: L.drop (i + 1) = L.set i c := by
 rw [List.set_eq_take_append_cons_drop, if_pos hi]
theorem low_set {L : List Cell} (h : lowCs 0 L = true) (i : Nat) {c : Cell} (hc : lowC 0 c = true) : lowCs 0 (L.set i c) = true := lowCs_of fun d hd => by
 rcases List.mem_or_eq_of_mem_set hd with hd | rfl
 ·exact lowCs_mem h d hd
 ·exact hc
theorem VU.set {n : Nat} {L : List Cell} (k : VU n L) (i : Nat) (v : Int) : VU n (L.set i (.p (.v (.int .u8 v)))) := by
 refine ⟨by rw [List.length_set]; exact k.len, fun j hj => ?_, low_set k.low i rfl⟩
 rw [List.getElem?_set]
 split
 ·rename_i e; subst e
  rw [if_pos (by have := k.len; omega)]
  exact ⟨v, rfl⟩
 ·exact k.at_ j hj
theorem VU.of {l : S} {ver : Nat} {T : List Cell} (hT : lowCs 0 T = true) : VU l.length (rowB ver (l.map encO) T).cells := by
 refine ⟨?_, fun i hi => ?_, lowCs_app (lowCs_p _ _) hT⟩
 ·show l.length ≤ ((l.map encO).flatten.map Cell.p ++ T).length
  rw [List.length_append, List.length_map, okEs_len (okEs_oct l), List.length_map]; omega
 ·have := row_cells (okEs_oct l) ver T i (encO l[i]) (by rw [List.getElem?_map, List.getElem?_eq_getElem hi]; rfl) 0 _ rfl
  rw [show 0 + (i * 1 + 0) = i by omega] at this
  exact ⟨_, this⟩
structure Tl7 (s : Sg) (h : Heap) (b : Nat) (st : St) : Prop where
 n : st.n = 10
 ho : ∀ id, id < b → st.h id = h id
 hb : st.h b = some ⟨0, (encSg s).map .p⟩
 hb1 : st.h (b + 1) = some ⟨0, (encSg s).map .p⟩
 e3 : st.t 3 = .one (.ptr b 0 0)
 e7 : st.t 7 = BoolV true
 e8 : st.t 8 = .one (.ptr (b + 1) 0 0)
 e21 : st.t 21 = BoolV true
theorem Tl7.of {s : Sg} {h : Heap} {b : Nat} {t t' : Nat → AV} {hh hh' : Heap} {n n' : Nat} (k : Tl7 s h b ⟨t, hh, n⟩) (hn : n' = 10) (et : t' 3 = t 3 ∧ t' 7 = t 7 ∧ t' 8 = t 8 ∧ t' 21 = t 21) (eh : ∀ id, id < b + 2 → hh' id = hh id) : Tl7 s h b ⟨t', hh', n'⟩ := by
 obtain ⟨_, ho, hb, hb1, e3, e7, e8, e21⟩ := k
 exact ⟨hn, fun id hid => (eh id (by omega)).trans (ho id hid), (eh _ (by omega)).trans hb, (eh _ (by omega)).trans hb1, et.1.trans e3, et.2.1.trans e7, et.2.2.1.trans e8, et.2.2.2.trans e21⟩
theorem Tl7.cut {s : Sg} {h : Heap} {b : Nat} {st : St} (C : Ctx) (hC : C.b = b) (hlow : ∀ id blk, h id = some blk → ∀ c ∈ blk.cells, lowC b c = true) (k : Tl7 s h b st) : Tl7 s h b (st.cut C 10) := by
 subst hC
 obtain ⟨t, hh, n⟩ := st
 obtain ⟨k0, ho, hb, hb1, e3, e7, e8, e21⟩ := k
 simp only at k0 ho hb hb1 e3 e7 e8 e21
 refine ⟨rfl, cutH_outer (by omega) ho hlow, cutH_same (by omega) hb (show lowCs _ ((encSg s).map Cell.p) = true from lowCs_p _ _), cutH_same (by omega) hb1 (show lowCs _ ((encSg s).map Cell.p) = true from lowCs_p _ _), ?_, ?_, ?_, ?_⟩
 ·show cutV _ (t 3) = _; rw [e3]; exact cutV_ptr (by omega)
 ·show cutV _ (t 7) = _; rw [e7]; rfl
 ·show cutV _ (t 8) = _; rw [e8]; exact cutV_ptr (by omega)
 ·show cutV _ (t 21) = _; rw [e21]; rfl
structure Tl6 (s : Sg) (m2 : Sg) (d2 : Cell) (h : Heap) (b : Nat) (st : St) : Prop where
 n : st.n = 10
 ho : ∀ id, id < b → st.h id = h id
 hb : st.h b = some ⟨0, (encSg s).map .p⟩
 hb1 : st.h (b + 1) = some ⟨0, (encSg s).map .p⟩
 e3 : st.t 3 = .one (.ptr b 0 0)
 e7 : st.t 7 = BoolV true
 e8 : st.t 8 = .one (.ptr (b + 1) 0 0)
 e16 : st.t 16 = .one (.ptr (b + 8) 0 0)
 e21 : st.t 21 = BoolV true
 h8 : st.h (b + 8) = some ⟨0, sgX m2 d2⟩
 k : rowD 1 (m2.dirs.map encS) st.h (b + 7) d2
theorem Tl6.of {s : Sg} {m2 : Sg} {d2 : Cell} {h : Heap} {b : Nat} {t t' : Nat → AV} {hh hh' : Heap} {n n' : Nat} (k : Tl6 s m2 d2 h b ⟨t, hh, n⟩) (hn : n' = 10) (et : t' 3 = t 3 ∧ t' 7 = t 7 ∧ t' 8 = t 8 ∧ t' 16 = t 16 ∧ t' 21 = t 21) (eh : ∀ id, id < b + 10 → id ≠ b + 2 → hh' id = hh id) : Tl6 s m2 d2 h b ⟨t', hh', n'⟩ := by
 obtain ⟨_, ho, hb, hb1, e3, e7, e8, e16, e21, h8, kd⟩ := k
 exact ⟨hn, fun id hid => (eh id (by omega) (by omega)).trans (ho id hid), (eh _ (by omega) (by omega)).trans hb, (eh _ (by omega) (by omega)).trans hb1, et.1.trans e3, et.2.1.trans e7, et.2.2.1.trans e8, et.2.2.2.1.trans e16, et.2.2.2.2.trans e21, (eh _ (by omega) (by omega)).trans h8, kd.of (eh _ (by omega) (by omega))⟩
theorem rowD.low {sz : Nat} {es : List (List PD)} {h : Heap} {id m : Nat} {d : Cell} (k : rowD sz es h id d) (hm : id < m) : lowC m d = true := by
 rcases k with ⟨rfl, _⟩ | ⟨ver, cap, rfl, _⟩
 ·rfl
 ·exact decide_eq_true hm
theorem rowD.cut {sz : Nat} {es : List (List PD)} {h : Heap} {id m : Nat} {d : Cell} (k : rowD sz es h id d) (hm : id < m) : rowD sz es (cutH m h) id d := by
 rcases k with k | ⟨ver, cap, h1, h2⟩
 ·exact .inl k
 ·exact .inr ⟨ver, cap, h1, h2.cut hm⟩
theorem Tl6.cut {s : Sg} {m2 : Sg} {d2 : Cell} {h : Heap} {b : Nat} {st : St} (C : Ctx) (hC : C.b = b) (hlow : ∀ id blk, h id = some blk → ∀ c ∈ blk.cells, lowC b c = true) (k : Tl6 s m2 d2 h b st) : Tl6 s m2 d2 h b (st.cut C 10) := by
 subst hC
 obtain ⟨t, hh, n⟩ := st
 obtain ⟨k0, ho, hb, hb1, e3, e7, e8, e16, e21, h8, kd⟩ := k
 simp only at k0 ho hb hb1 e3 e7 e8 e16 e21 h8 kd
 refine ⟨rfl, cutH_outer (by omega) ho hlow, cutH_same (by omega) hb (show lowCs _ ((encSg s).map Cell.p) = true from lowCs_p _ _), cutH_same (by omega) hb1 (show lowCs _ ((encSg s).map Cell.p) = true from lowCs_p _ _), ?_, ?_, ?_, ?_, ?_, cutH_same (by omega) h8 ?_, kd.cut (by omega)⟩
 ·show cutV _ (t 3) = _; rw [e3]; exact cutV_ptr (by omega)
 ·show cutV _ (t 7) = _; rw [e7]; rfl
 ·show cutV _ (t 8) = _; rw [e8]; exact cutV_ptr (by omega)
 ·show cutV _ (t 16) = _; rw [e16]; exact cutV_ptr (by omega)
 ·show cutV _ (t 21) = _; rw [e21]; rfl
 ·have := kd.low (m := C.b + 10) (by omega)
  simp [sgX, lowCs, this]
  simp [lowC]
theorem ltells_ok (s : Sg) (p dir : S) (hr : ∀ x ∈ s.ed, x.rank < 18446744073709551616) (ht : s.t.length ≤ 9223372036854775807) (hl : s.ed.length ≤ 9223372036854775807) (hn1 : s.names.length ≤ 9223372036854775807) (hd1 : s.dirs.length ≤ 9223372036854775807) (h : Heap) (b : Nat) :
  ACalls Tryz.prog 8 [SgV s, StrV p, StrV dir] h b 0 (fun r h' => r = BoolV true ∧ h' = h) := by
 refine ACalls.enter Tryz.func8 rfl (by simp [Tryz.ntmps8]) (fun ι w hn H => ?_)
 have hlow := H.lowCells
 have fin : ∀ (t : Nat → AV) (hh : Heap) (n : Nat), t 6 = BoolV true → (∀ id, id < b → hh id = h id) → Am.Ends Tryz.prog ⟨Tryz.f8.ntmps, b, ι, h, w, x0⟩ Tryz.f8 0 (fun r h' => r = BoolV true ∧ h' = h) ⟨t, hh, n⟩ := by
  intro t hh n ht ho
  exact Ends.pure hn H ho (r0 := BoolV true) (by rw [show Tryz.f8.results.toList = [.tmp 6] from rfl]; exact Ecf @ht) (.v _) ⟨rfl, rfl⟩
 refine Rk ?_
 refine Rg (fun E K hE hK => ?_)
 refine Us (slive_ok _ _) body_20 ?_
 refine hK _ _ _ ?_; clear hE hK K E
 refine AWP.seq ?_
 cases c0 : fewS s
 ·refine Rg (fun E K hE hK => ?_)
  refine Us (sFew_ok s ht hl hn1 hd1 _ _) body_21 ?_
  refine Evf @c0 ?_
  refine hK _ _ _ ?_; clear hE hK K E
  refine Bt ?_
  refine Rk ?_
  refine AWP.ret ?_
  refine Ev ?_
  exact fin _ _ _ (by exact Er) Ou
 have z := fewS_sz c0
 obtain ⟨zr, zd⟩ := few_rf c0 hr
 by_cases c1 : (200 : Int) < p.length
 ·refine Rg (fun E K hE hK => ?_)
  refine Us (sFew_ok s ht hl hn1 hd1 _ _) body_21 ?_
  refine Evf (jn3 @c0 @mkS_size @c1) ?_
  refine hK _ _ _ ?_; clear hE hK K E
  refine Bt ?_
  refine Rk ?_
  refine AWP.ret ?_
  refine Ev ?_
  exact fin _ _ _ (by exact Er) Ou
 by_cases c2 : (200 : Int) < dir.length
 ·refine Rg (fun E K hE hK => ?_)
  refine Us (sFew_ok s ht hl hn1 hd1 _ _) body_21 ?_
  refine Evf (jn4 @c0 @mkS_size @c1 @c2) ?_
  refine hK _ _ _ ?_; clear hE hK K E
  refine Bt ?_
  refine Rk ?_
  refine AWP.ret ?_
  refine Ev ?_
  exact fin _ _ _ (by exact Er) Ou
 refine Rg (fun E K hE hK => ?_)
 refine Us (sFew_ok s ht hl hn1 hd1 _ _) body_21 ?_
 refine Evf (jn4 @c0 @mkS_size @c1 @c2) ?_
 refine hK _ _ _ ?_; clear hE hK K E
 refine Bs ?_
 have hp1 : p.length ≤ 1000 := by omega
 have hdir1 : dir.length ≤ 1000 := by omega
 obtain ⟨⟨x, m, e⟩, hv⟩ : ∃ v, seeS keyR s p = v := ⟨_, rfl⟩
 obtain ⟨⟨m2, e2⟩, hv2⟩ : ∃ v, lstS keyR s dir = v := ⟨_, rfl⟩
 refine AWP.seqReg (by kernel_rfl) (fun E K hE hK => ?_); simp -implicitDefEqProofs only [go_sem, ↓reduceIte, Nat.reduceEqDiff, Nat.reduceAdd, Nat.reduceLT, Nat.reduceLeDiff, reduceCtorEq, Int.toNat_natCast, encSg]
 refine Us (rCopyS_ok s zr _ _) body_22 ?_
 refine hK _ _ _ ?_; clear hE hK K E
 have ks := seeA_ok s p x m e z hv
 have krs := rSee_ok s p zr hp1
 rw [hv] at krs
 refine AWP.mid (fun st => ∃ d, Tl5 s p dir x m e d h b st ∧ st.n = 5) ?_ ?_
 ·refine AWP.reg (by kernel_rfl) (fun E K hE hK => ?_); simp -implicitDefEqProofs only [go_sem, ↓reduceIte, Nat.reduceEqDiff, Nat.reduceAdd, Nat.reduceLT, Nat.reduceLeDiff, reduceCtorEq, Int.toNat_natCast, encSg]
  refine CallR.use (ks _ _) body_23 ?_
  rintro _ h2 ⟨d, rfl, kd, ko⟩
  have hb : h2 b = some ⟨0, (encSg s).map .p⟩ := (ko b (show b < b + 2 by omega)).trans (by exact Er)
  have hb1 : h2 (b + 1) = some ⟨0, (encSg s).map .p⟩ := (ko (b + 1) (show b + 1 < b + 2 by omega)).trans (by exact Er)
  have ho : ∀ id, id < b → h2 id = h id := fun id hid => by
   have q0 : ¬ id = b := by omega
   have q1 : ¬ id = b + 1 := by omega
   exact (ko id (show id < b + 2 by omega)).trans (by exact Erf (jn2 @q0 @q1))
  clear ko
  have g : ∀ B1 B2 B3 B4 y, y < b + 3 → (upd (upd (upd (upd h2 (b + 3) B1) (b + 4) B2) (b + 3) B3) (b + 4) B4) y = h2 y := fun B1 B2 B3 B4 y hy => (upd_ne _ _ _ _ (by omega)).trans ((upd_ne _ _ _ _ (by omega)).trans ((upd_ne _ _ _ _ (by omega)).trans (upd_ne _ _ _ _ (by omega))))
  have kd0 := kd
  rcases kd with ⟨rfl, hx⟩ | ⟨ver, cap, rfl, T, r1, r2, r3⟩
  ·simp -implicitDefEqProofs only [go_sem, ↓reduceIte, Nat.reduceEqDiff, Nat.reduceAdd, Nat.reduceLT, Nat.reduceLeDiff, reduceCtorEq, Int.toNat_natCast, edX, SgV, encSg]
   refine hK _ _ _ ?_; clear hE hK K E
   have g2 : ∀ y, y < b + 3 → ∀ B1 B2 B3 B4, (upd (upd (upd (upd h2 (b + 3) B1) (b + 4) B2) (b + 3) B3) (b + 4) B4) y = h2 y := fun y hy B1 B2 B3 B4 => g B1 B2 B3 B4 y hy
   have n34 : ¬ b + 3 = b + 4 := by omega
   exact ⟨_, ⟨fun id hid => (g2 id (show id < b + 3 by have : id < b := hid; omega) _ _ _ _).trans (ho id hid), (g2 b (by omega) _ _ _ _).trans hb, (g2 (b + 1) (by omega) _ _ _ _).trans hb1, kd0.of (g2 (b + 2) (by omega) _ _ _ _), by (first | (simp -implicitDefEqProofs only [go_sem, ↓reduceIte, Nat.reduceEqDiff, Nat.reduceAdd, Nat.reduceLT, Nat.reduceLeDiff, reduceCtorEq, Int.toNat_natCast, n34, edX]; first | done | rfl) | rfl), by exact Er, by exact Er, by exact Er, by exact Er, by exact Er, by exact Er, by exact Er, by exact Er, by exact Er⟩, rfl⟩
  ·have n23 : ¬ b + 2 = b + 3 := by omega
   have n24 : ¬ b + 2 = b + 4 := by omega
   simp -implicitDefEqProofs only [go_sem, ↓reduceIte, Nat.reduceEqDiff, Nat.reduceAdd, Nat.reduceLT, Nat.reduceLeDiff, reduceCtorEq, Int.toNat_natCast, edX, SgV, encSg, r1, n23, n24, rowB]
   refine hK _ _ _ ?_; clear hE hK K E
   have g2 : ∀ y, y < b + 3 → ∀ B1 B2 B3 B4, (upd (upd (upd (upd h2 (b + 3) B1) (b + 4) B2) (b + 3) B3) (b + 4) B4) y = h2 y := fun y hy B1 B2 B3 B4 => g B1 B2 B3 B4 y hy
   have n34 : ¬ b + 3 = b + 4 := by omega
   exact ⟨_, ⟨fun id hid => (g2 id (show id < b + 3 by have : id < b := hid; omega) _ _ _ _).trans (ho id hid), (g2 b (by omega) _ _ _ _).trans hb, (g2 (b + 1) (by omega) _ _ _ _).trans hb1, kd0.of (g2 (b + 2) (by omega) _ _ _ _), by (first | (simp -implicitDefEqProofs only [go_sem, ↓reduceIte, Nat.reduceEqDiff, Nat.reduceAdd, Nat.reduceLT, Nat.reduceLeDiff, reduceCtorEq, Int.toNat_natCast, n34, edX]; first | done | rfl) | rfl), by exact Er, by exact Er, by exact Er, by exact Er, by exact Er, by exact Er, by exact Er, by exact Er, by exact Er⟩, rfl⟩
 rintro ⟨t, hh, n⟩ ⟨d, hT, hn1⟩
 simp only at hn1
 subst hn1
 have nb : ∀ i j, i ≠ j → ¬ b + i = b + j := fun i j hij => by omega
 have krl := rList_ok s dir zr zd hdir1
 rw [hv2] at krl
 have ksl := lstA_ok s dir m2 e2 z hv2
 obtain ⟨l, hl0⟩ : ∃ l, (if e2 = 0 then lisF s dir else []) = l := ⟨_, rfl⟩
 simp only at krl
 rw [hl0] at krl ksl
 refine AWP.mid (fun st => Tl5 s p dir x m e d h b st ∧ st.n = 7 ∧ st.t 12 = .one (.ptr (b + 5) 0 0) ∧ st.t 13 = .one (.ptr (b + 6) 0 0) ∧ st.t 14 = IntV e ∧ st.h (b + 5) = some ⟨0, (encEd x).map .p⟩ ∧ st.h (b + 6) = some ⟨0, (encSg m).map .p⟩) ?_ ?_
 ·have hT0 := hT
  obtain ⟨ho, hb, hb1, k, h3, h4, e1, e2, e3, e7, e8, e9, e10, e11⟩ := hT0
  simp only at ho hb hb1 k h3 h4 e1 e2 e3 e7 e8 e9 e10 e11
  refine AWP.reg (by kernel_rfl) (fun E K hE hK => ?_); simp -implicitDefEqProofs only [go_sem, ↓reduceIte, Nat.reduceEqDiff, Nat.reduceAdd, Nat.reduceLT, Nat.reduceLeDiff, reduceCtorEq, Int.toNat_natCast, e1, e3, hb, encSg]
  refine Us (krs _ _) body_24 ?_
  simp -implicitDefEqProofs only [go_sem, ↓reduceIte, Nat.reduceEqDiff, Nat.reduceAdd, Nat.reduceLT, Nat.reduceLeDiff, reduceCtorEq, Int.toNat_natCast, EdV, SgV, encEd, encSg]
  refine hK _ _ _ ?_; clear hE hK K E
  have n56 : ¬ b + 5 = b + 6 := by omega
  refine ⟨hT.of ⟨by exact Er, by exact Er, by exact Er, by exact Er, by exact Er, by exact Er, by exact Er, by exact Er⟩ (fun id hid => by exact Erf (jn2 (show ¬ id = b + 5 by omega) (show ¬ id = b + 6 by omega))), rfl, by exact Er, by exact Er, by exact Er, by (first | (simp -implicitDefEqProofs only [go_sem, ↓reduceIte, Nat.reduceEqDiff, Nat.reduceAdd, Nat.reduceLT, Nat.reduceLeDiff, reduceCtorEq, Int.toNat_natCast, n56, encEd]; first | done | rfl) | rfl), by (first | (simp -implicitDefEqProofs only [go_sem, ↓reduceIte, Nat.reduceEqDiff, Nat.reduceAdd, Nat.reduceLT, Nat.reduceLeDiff, reduceCtorEq, Int.toNat_natCast, encSg]; first | done | rfl) | rfl)⟩
 clear hT t hh
 rintro ⟨t, hh, n⟩ ⟨hT, hn1, e12, e13, e14, h5, h6⟩
 simp only at hn1 e12 e13 e14 h5 h6
 subst hn1
 refine AWP.mid (fun st => ∃ d2, Tl5 s p dir x m e d h b st ∧ st.n = 9 ∧ st.t 12 = .one (.ptr (b + 5) 0 0) ∧ st.t 13 = .one (.ptr (b + 6) 0 0) ∧ st.t 14 = IntV e ∧ st.h (b + 5) = some ⟨0, (encEd x).map .p⟩ ∧ st.h (b + 6) = some ⟨0, (encSg m).map .p⟩ ∧ st.t 15 = ListV l ∧ st.t 16 = .one (.ptr (b + 8) 0 0) ∧ st.t 17 = IntV e2 ∧ st.h (b + 8) = some ⟨0, sgX m2 d2⟩ ∧ rowD 1 (m2.dirs.map encS) st.h (b + 7) d2) ?_ ?_
 ·have hT0 := hT
  obtain ⟨ho, hb, hb1, k, h3, h4, e1, e2', e3, e7, e8, e9, e10, e11⟩ := hT0
  simp only at ho hb hb1 k h3 h4 e1 e2' e3 e7 e8 e9 e10 e11
  refine AWP.reg (by kernel_rfl) (fun E K hE hK => ?_); simp -implicitDefEqProofs only [go_sem, ↓reduceIte, Nat.reduceEqDiff, Nat.reduceAdd, Nat.reduceLT, Nat.reduceLeDiff, reduceCtorEq, Int.toNat_natCast, e2', e3, hb, encSg]
  refine CallR.use (ksl _ _) body_25 ?_
  rintro _ h2 ⟨d2, rfl, kd, ko⟩
  have ko' : ∀ y, y < b + 7 → h2 y = hh y := fun y hy => ko y hy
  clear ko
  have n78 : ¬ b + 7 = b + 8 := by omega
  have kd0 := kd
  rcases kd with ⟨rfl, hx⟩ | ⟨ver, cap, rfl, T, r1, r2, r3⟩
  ·simp -implicitDefEqProofs only [go_sem, ↓reduceIte, Nat.reduceEqDiff, Nat.reduceAdd, Nat.reduceLT, Nat.reduceLeDiff, reduceCtorEq, Int.toNat_natCast, sgX]
   refine hK _ _ _ ?_; clear hE hK K E
   have g : ∀ y, y < b + 8 → ∀ B, (upd h2 (b + 8) B) y = h2 y := fun y hy B => upd_ne _ _ _ _ (by omega)
   exact ⟨_, hT.of ⟨by exact Er, by exact Er, by exact Er, by exact Er, by exact Er, by exact Er, by exact Er, by exact Er⟩ (fun id hid => (g id (show id < b + 8 by have : id < b + 5 := hid; omega) _).trans (ko' id (show id < b + 7 by have : id < b + 5 := hid; omega))), rfl, by exact Erf @e12, by exact Erf @e13, by exact Erf @e14, (g (b + 5) (by omega) _).trans ((ko' (b + 5) (by omega)).trans h5), (g (b + 6) (by omega) _).trans ((ko' (b + 6) (by omega)).trans h6), by exact Er, by exact Er, by exact Er, by (first | (simp -implicitDefEqProofs only [go_sem, ↓reduceIte, Nat.reduceEqDiff, Nat.reduceAdd, Nat.reduceLT, Nat.reduceLeDiff, reduceCtorEq, Int.toNat_natCast, sgX]; first | done | rfl) | rfl), kd0.of (g (b + 7) (by omega) _)⟩
  ·simp -implicitDefEqProofs only [go_sem, ↓reduceIte, Nat.reduceEqDiff, Nat.reduceAdd, Nat.reduceLT, Nat.reduceLeDiff, reduceCtorEq, Int.toNat_natCast, sgX, r1, n78, rowB]
   refine hK _ _ _ ?_; clear hE hK K E
   have g : ∀ y, y < b + 8 → ∀ B, (upd h2 (b + 8) B) y = h2 y := fun y hy B => upd_ne _ _ _ _ (by omega)
   exact ⟨_, hT.of ⟨by exact Er, by exact Er, by exact Er, by exact Er, by exact Er, by exact Er, by exact Er, by exact Er⟩ (fun id hid => (g id (show id < b + 8 by have : id < b + 5 := hid; omega) _).trans (ko' id (show id < b + 7 by have : id < b + 5 := hid; omega))), rfl, by exact Erf @e12, by exact Erf @e13, by exact Erf @e14, (g (b + 5) (by omega) _).trans ((ko' (b + 5) (by omega)).trans h5), (g (b + 6) (by omega) _).trans ((ko' (b + 6) (by omega)).trans h6), by exact Er, by exact Er, by exact Er, by (first | (simp -implicitDefEqProofs only [go_sem, ↓reduceIte, Nat.reduceEqDiff, Nat.reduceAdd, Nat.reduceLT, Nat.reduceLeDiff, reduceCtorEq, Int.toNat_natCast, sgX]; first | done | rfl) | rfl), kd0.of (g (b + 7) (by omega) _)⟩
 clear hT e12 e13 e14 h5 h6 t hh
 rintro ⟨t, hh, n⟩ ⟨d2, hT, hn1, e12, e13, e14, h5, h6, e15, e16, e17, h8, kd2⟩
 simp only at hn1 e12 e13 e14 h5 h6 e15 e16 e17 h8 kd2
 subst hn1
 have hT0 := hT
 obtain ⟨ho, hb, hb1, k, h3, h4, e1, e2', e3, e7, e8, e9, e10, e11⟩ := hT0
 simp only at ho hb hb1 k h3 h4 e1 e2' e3 e7 e8 e9 e10 e11
 have hll : l.length ≤ 1000000 := by
  rw [← hl0]
  split
  ·have h1 : (lisF s dir).length ≤ (namR s).length := List.length_filter_le _ _
   have h2 := (namR_sz zr).1
   omega
  ·simp
 have kN := sgNm_ok l l hll
 rw [decide_eq_true rfl] at kN
 refine AWP.seqReg (by kernel_rfl) (fun E K hE hK => ?_); simp -implicitDefEqProofs only [go_sem, ↓reduceIte, Nat.reduceEqDiff, Nat.reduceAdd, Nat.reduceLT, Nat.reduceLeDiff, reduceCtorEq, Int.toNat_natCast, e2', e3, hb, encSg]
 refine Us (krl _ _) body_26 ?_
 simp -implicitDefEqProofs only [go_sem, ↓reduceIte, Nat.reduceEqDiff, Nat.reduceAdd, Nat.reduceLT, Nat.reduceLeDiff, reduceCtorEq, Int.toNat_natCast, SgV, encSg]
 refine hK _ _ _ ?_; clear hE hK K E
 have g : ∀ y, y < b + 9 → ∀ B, (upd hh (b + 9) B) y = hh y := fun y hy B => upd_ne _ _ _ _ (by omega)
 refine AWP.mid (fun st => Tl5 s p dir x m e d h b st ∧ st.n = 10 ∧ st.t 21 = BoolV true ∧ st.t 16 = .one (.ptr (b + 8) 0 0) ∧ st.h (b + 8) = some ⟨0, sgX m2 d2⟩ ∧ rowD 1 (m2.dirs.map encS) st.h (b + 7) d2) ?_ ?_
 ·have n39 : ¬ b + 3 = b + 9 := by omega
  have n49 : ¬ b + 4 = b + 9 := by omega
  have n59 : ¬ b + 5 = b + 9 := by omega
  have n69 : ¬ b + 6 = b + 9 := by omega
  have n89 : ¬ b + 8 = b + 9 := by omega
  have de : (e = e) = True := eq_true rfl
  have de2 : (e2 = e2) = True := eq_true rfl
  have h3' := fun B => (g (b + 3) (by omega) B).trans h3
  have hS1 := rSameS_ok m (see_sz zr hv)
  have hS2 : ∀ B h' b', h' = upd hh (b + 9) B → ACalls Tryz.prog 28 [.agg (sgX m2 d2), SgV m2] h' b' 0 (fun r h'' => r = BoolV true ∧ h'' = h') := fun B h' b' eh => sameA_ok (lst_sz zr hv2) (kd2.of (by rw [eh]; exact g (b + 7) (by omega) B)) b'
  have hO : ∀ B h' b', h' = upd hh (b + 9) B → ACalls Tryz.prog 27 [.agg (edX x d), EdV x] h' b' 0 (fun r h'' => r = BoolV true ∧ h'' = h') := fun B h' b' eh => oneA_ok (k.of (by rw [eh]; exact g (b + 2) (by omega) B)) b'
  refine AWP.reg (by kernel_rfl) (fun E K hE hK => ?_); simp -implicitDefEqProofs only [go_sem, ↓reduceIte, Nat.reduceEqDiff, Nat.reduceAdd, Nat.reduceLT, Nat.reduceLeDiff, reduceCtorEq, Int.toNat_natCast, e9, e12, h3, h5, n39, n59, edX, encEd]
  refine Us (hO _ _ _ rfl) body_27 ?_
  simp -implicitDefEqProofs only [go_sem, ↓reduceIte, Nat.reduceEqDiff, Nat.reduceAdd, Nat.reduceLT, Nat.reduceLeDiff, reduceCtorEq, Int.toNat_natCast, e10, e13, h4, h6, n49, n69, encSg]
  refine Us (hS1 _ _) body_28 ?_
  refine Evf (jn4 @e11 @e14 @de @e15) ?_
  refine Us (kN _ _) body_29 ?_
  simp -implicitDefEqProofs only [go_sem, ↓reduceIte, Nat.reduceEqDiff, Nat.reduceAdd, Nat.reduceLT, Nat.reduceLeDiff, reduceCtorEq, Int.toNat_natCast, e16, h8, n89, sgX]
  refine Us (hS2 _ _ _ rfl) body_28 ?_
  refine Evf (jn2 @e17 @de2) ?_
  refine hK _ _ _ ?_; clear hE hK K E
  refine ⟨hT.of ⟨by exact Er, by exact Er, by exact Er, by exact Er, by exact Er, by exact Er, by exact Er, by exact Er⟩ (fun id hid => g id (by omega) _), rfl, by exact Er, by exact Erf @e16, (g (b + 8) (by omega) _).trans h8, kd2.of (g (b + 7) (by omega) _)⟩
 clear hT ho hb hb1 k h3 h4 e1 e2' e3 e7 e8 e9 e10 e11 e12 e13 e14 h5 h6 e15 e16 e17 h8 kd2 g t hh
 rintro ⟨t, hh, n⟩ ⟨hT, hn1, e21, e16, h8, kd2⟩
 simp only at hn1 e21 e16 h8 kd2
 subst hn1
 refine AWP.mid (Tl6 s m2 d2 h b) ?_ ?_
 ·obtain ⟨ho, hb, hb1, k, h3, h4, e1, e2', e3, e7, e8, e9, e10, e11⟩ := hT
  simp only at ho hb hb1 k h3 h4 e1 e2' e3 e7 e8 e9 e10 e11
  rcases k with ⟨rfl, hx⟩ | ⟨ver, cap, rfl, hrow⟩
  ·refine AWP.seqReg (by kernel_rfl) (fun E K hE hK => ?_); simp -implicitDefEqProofs only [go_sem, ↓reduceIte, Nat.reduceEqDiff, Nat.reduceAdd, Nat.reduceLT, Nat.reduceLeDiff, reduceCtorEq, Int.toNat_natCast, e9, h3, edX]; refine hK _ _ _ ?_; clear hE hK K E
   refine AWP.block ?_
   refine AWP.loopUp 10 0 (fun i st => Tl6 s m2 d2 h b st ∧ st.t 99 = IntV 0 ∧ st.t 100 = IntV (i : Nat)) 0 (Nat.le_refl _) rfl ⟨⟨rfl, ho, hb, hb1, by exact Ecf @e3, by exact Ecf @e7, by exact Ecf @e8, by exact Ecf @e16, by exact Ecf @e21, h8, kd2⟩, by exact Er, by exact Er⟩ ?_
   rintro i ⟨t, hh, n⟩ hi ⟨hT6, e99, e100⟩ hn1
   simp only at e99 e100
   have hi0 : i = 0 := by omega
   subst hi0
   have hlt : ¬ (((0 : Nat) : Int) < 0) := by omega
   refine Rkf (jn2 @e99 @e100) ?_
   refine AWP.seq ?_
   refine Bff @hlt ?_
   refine AWP.exit ?_
   refine Ev ?_
   exact hT6.of hT6.n ⟨by exact Er, by exact Er, by exact Er, by exact Er, by exact Er⟩ (fun _ _ _ => rfl)
  ·obtain ⟨T, r1, r2, r3⟩ := hrow
   have hxl : (x.data.map encO).length = x.data.length := List.length_map _
   have hv0 : VU x.data.length (rowB ver (x.data.map encO) T).cells := VU.of r3
   obtain ⟨L0, hL0⟩ : ∃ L, (rowB ver (x.data.map encO) T).cells = L := ⟨_, rfl⟩
   have r1' : hh (b + 2) = some ⟨ver, L0⟩ := by rw [r1, ← hL0]
   rw [hL0] at hv0
   rw [hxl] at h3
   have hxm : x.data.length ≤ 1000000 := by
    have := see_data zr hv; omega
   obtain ⟨nx, hnx⟩ : ∃ n, x.data.length = n := ⟨_, rfl⟩
   rw [hnx] at hv0 h3 hxm
   refine AWP.seqReg (by kernel_rfl) (fun E K hE hK => ?_); simp -implicitDefEqProofs only [go_sem, ↓reduceIte, Nat.reduceEqDiff, Nat.reduceAdd, Nat.reduceLT, Nat.reduceLeDiff, reduceCtorEq, Int.toNat_natCast, e9, h3, edX, r1']; refine hK _ _ _ ?_; clear hE hK K E
   refine AWP.block ?_
   refine AWP.loopM 10 (fun k st => ∃ i L, i ≤ nx ∧ k = nx - i ∧ Tl6 s m2 d2 h b st ∧ st.h (b + 2) = some ⟨ver, L⟩ ∧ VU nx L ∧ st.h (b + 3) = some ⟨0, edX x (.win (b + 2) ver 0 nx cap)⟩ ∧ st.t 9 = .one (.ptr (b + 3) 0 0) ∧ st.t 99 = IntV nx ∧ st.t 100 = IntV (i : Nat)) nx rfl ⟨0, L0, Nat.zero_le _, rfl, ⟨rfl, ho, hb, hb1, by exact Ecf @e3, by exact Ecf @e7, by exact Ecf @e8, by exact Ecf @e16, by exact Ecf @e21, h8, kd2⟩, r1', hv0, h3, by exact Ecf @e9, by exact Er, by exact Er⟩ ?_
   rintro k ⟨t, hh, n⟩ ⟨i, L, hi, rfl, hT6, hA, hV, h3, e9, e99, e100⟩ hn1
   have hn0 : n = 10 := hT6.n
   simp only at hA h3 e9 e99 e100
   subst hn0
   refine Rkf (jn2 @e99 @e100) ?_
   refine AWP.seq ?_
   by_cases hlt : (i : Int) < nx
   ·have hw1 : IntKind.i64.wrap ((i : Int) + 1) = ((i + 1 : Nat) : Int) := by rw [wrap_i64 (by omega) (by omega)]; rfl
    have hi2 : i < nx := by omega
    obtain ⟨v, hget⟩ := hV.at_ i hi2
    have hLl := hV.len
    refine Btf @hlt ?_
    refine AWP.skip ?_
    refine Ev ?_
    refine AWP.seq ?_
    refine AWP.block ?_
    refine Rkf @e100 ?_
    have hget' : L[i * 1]? = some (.p (.v (.int .u8 v))) := by rw [Nat.mul_one]; exact hget
    have hset : ∀ c, L.take (i * 1) ++ c :: L.drop (i * 1 + 1) = L.set i c := fun c => by rw [Nat.mul_one]; exact take_set (by omega) c
    refine AWP.reg (by kernel_rfl) (fun E K hE hK => ?_); simp -implicitDefEqProofs only [go_sem, ↓reduceIte, Nat.reduceEqDiff, Nat.reduceAdd, Nat.reduceLT, Nat.reduceLeDiff, reduceCtorEq, Int.toNat_natCast, e9, h3, edX, hA, hlt, hget', hset]
    repeat (refine ⟨by omega, ?_⟩)
    refine hK _ _ _ ?_; clear hE hK K E
    refine Raf (jn2 @e100 @hw1) (fun E K hE hK => ?_); refine hK _ _ _ ?_; clear hE hK K E
    have g : ∀ y, y ≠ b + 2 → ∀ B, (upd hh (b + 2) B) y = hh y := fun y hy B => upd_ne _ _ _ _ hy
    refine ⟨Nat.le_refl _, nx - (i + 1), by omega, i + 1, L.set i (.p (.v (.int .u8 (IntKind.u8.wrap (v + 1))))), by omega, rfl, Tl6.cut ⟨_, b, ι, h, w, x0⟩ rfl hlow (hT6.of rfl ⟨by exact Er, by exact Er, by exact Er, by exact Er, by exact Er⟩ (fun id _ hne => g id hne _)), cutH_same (show b + 2 < b + 10 by omega) (upd_same _ _ _) (lowCs_mono (Nat.zero_le _) (hV.set i _).low), hV.set i _, cutH_same (show b + 3 < b + 10 by omega) ((g (b + 3) (by omega) _).trans h3) (by simp [edX, lowCs, lowC]), by refine Evf @e9 ?_; exact cutV_ptr (show b + 3 < b + 10 by omega), by exact Ecf @e99, by exact Er⟩
   ·refine Bff @hlt ?_
    refine AWP.exit ?_
    refine Ev ?_
    exact hT6.of rfl ⟨by exact Er, by exact Er, by exact Er, by exact Er, by exact Er⟩ (fun _ _ _ => rfl)
 clear hT e21 e16 h8 kd2 t hh
 rintro ⟨t, hh, n⟩ ⟨hn1, ho, hb, hb1, e3, e7, e8, e16, e21, h8, kd2⟩
 simp only at hn1 ho hb hb1 e3 e7 e8 e16 e21 h8 kd2
 subst hn1
 refine AWP.mid (Tl7 s h b) ?_ ?_
 ·rcases kd2 with ⟨rfl, hx⟩ | ⟨ver, cap, rfl, hrow⟩
  ·refine AWP.seqReg (by kernel_rfl) (fun E K hE hK => ?_); simp -implicitDefEqProofs only [go_sem, ↓reduceIte, Nat.reduceEqDiff, Nat.reduceAdd, Nat.reduceLT, Nat.reduceLeDiff, reduceCtorEq, Int.toNat_natCast, e16, h8, sgX]; refine hK _ _ _ ?_; clear hE hK K E
   refine AWP.block ?_
   refine AWP.loopUp 10 0 (fun i st => Tl7 s h b st ∧ st.t 114 = IntV 0 ∧ st.t 115 = IntV (i : Nat)) 0 (Nat.le_refl _) rfl ⟨⟨rfl, ho, hb, hb1, by exact Ecf @e3, by exact Ecf @e7, by exact Ecf @e8, by exact Ecf @e21⟩, by exact Er, by exact Er⟩ ?_
   rintro i ⟨t, hh, n⟩ hi ⟨hT6, e99, e100⟩ hn1
   simp only at e99 e100
   have hi0 : i = 0 := by omega
   subst hi0
   have hlt : ¬ (((0 : Nat) : Int) < 0) := by omega
   refine Rkf (jn2 @e99 @e100) ?_
   refine AWP.seq ?_
   refine Bff @hlt ?_
   refine AWP.exit ?_
   refine Ev ?_
   exact hT6.of hT6.n ⟨by exact Er, by exact Er, by exact Er, by exact Er⟩ (fun _ _ => rfl)
  ·obtain ⟨T, r1, r2, r3⟩ := hrow
   have hxl : (m2.dirs.map encS).length = m2.dirs.length := List.length_map _
   obtain ⟨L0, hL0⟩ : ∃ L, (rowB ver (m2.dirs.map encS) T).cells = L := ⟨_, rfl⟩
   have r1' : hh (b + 7) = some ⟨ver, L0⟩ := by rw [r1, ← hL0]
   have hv0 : m2.dirs.length ≤ L0.length ∧ lowCs 0 L0 = true := by
    rw [← hL0]
    refine ⟨?_, lowCs_app (lowCs_p _ _) r3⟩
    show _ ≤ ((m2.dirs.map encS).flatten.map Cell.p ++ T).length
    rw [List.length_append, List.length_map, okEs_len (okEs_str _), List.length_map]; omega
   rw [hxl] at h8
   have hxm : m2.dirs.length ≤ 1000000 := (lst_sz zr hv2).dr
   obtain ⟨nx, hnx⟩ : ∃ n, m2.dirs.length = n := ⟨_, rfl⟩
   rw [hnx] at hv0 h8 hxm
   refine AWP.seqReg (by kernel_rfl) (fun E K hE hK => ?_); simp -implicitDefEqProofs only [go_sem, ↓reduceIte, Nat.reduceEqDiff, Nat.reduceAdd, Nat.reduceLT, Nat.reduceLeDiff, reduceCtorEq, Int.toNat_natCast, e16, h8, sgX, r1']; refine hK _ _ _ ?_; clear hE hK K E
   refine AWP.block ?_
   refine AWP.loopM 10 (fun k st => ∃ i L, i ≤ nx ∧ k = nx - i ∧ Tl7 s h b st ∧ st.h (b + 7) = some ⟨ver, L⟩ ∧ (nx ≤ L.length ∧ lowCs 0 L = true) ∧ st.h (b + 8) = some ⟨0, sgX m2 (.win (b + 7) ver 0 nx cap)⟩ ∧ st.t 16 = .one (.ptr (b + 8) 0 0) ∧ st.t 114 = IntV nx ∧ st.t 115 = IntV (i : Nat)) nx rfl ⟨0, L0, Nat.zero_le _, rfl, ⟨rfl, ho, hb, hb1, by exact Ecf @e3, by exact Ecf @e7, by exact Ecf @e8, by exact Ecf @e21⟩, r1', hv0, h8, by exact Ecf @e16, by exact Er, by exact Er⟩ ?_
   rintro k ⟨t, hh, n⟩ ⟨i, L, hi, rfl, hT6, hA, ⟨hLl, hLo⟩, h8, e16, e99, e100⟩ hn1
   have hn0 : n = 10 := hT6.n
   simp only at hA h8 e16 e99 e100
   subst hn0
   refine Rkf (jn2 @e99 @e100) ?_
   refine AWP.seq ?_
   by_cases hlt : (i : Int) < nx
   ·have hw1 : IntKind.i64.wrap ((i : Int) + 1) = ((i + 1 : Nat) : Int) := by rw [wrap_i64 (by omega) (by omega)]; rfl
    have hi2 : i < nx := by omega
    refine Btf @hlt ?_
    refine AWP.skip ?_
    refine Ev ?_
    refine AWP.seq ?_
    refine AWP.block ?_
    refine Rkf @e100 ?_
    have hset : ∀ c, L.take (i * 1) ++ c :: L.drop (i * 1 + 1) = L.set i c := fun c => by rw [Nat.mul_one]; exact take_set (by omega) c
    refine AWP.reg (by kernel_rfl) (fun E K hE hK => ?_); simp -implicitDefEqProofs only [go_sem, ↓reduceIte, Nat.reduceEqDiff, Nat.reduceAdd, Nat.reduceLT, Nat.reduceLeDiff, reduceCtorEq, Int.toNat_natCast, e16, h8, sgX, hA, hlt, hset]
    repeat (refine ⟨by omega, ?_⟩)
    refine hK _ _ _ ?_; clear hE hK K E
    refine Raf (jn2 @e100 @hw1) (fun E K hE hK => ?_); refine hK _ _ _ ?_; clear hE hK K E
    have g : ∀ y, y ≠ b + 7 → ∀ B, (upd hh (b + 7) B) y = hh y := fun y hy B => upd_ne _ _ _ _ hy
    refine ⟨Nat.le_refl _, nx - (i + 1), by omega, i + 1, _, by omega, rfl, Tl7.cut ⟨_, b, ι, h, w, x0⟩ rfl hlow (hT6.of rfl ⟨by exact Er, by exact Er, by exact Er, by exact Er⟩ (fun id hid => g id (by omega) _)), cutH_same (show b + 7 < b + 10 by omega) (upd_same _ _ _) (lowCs_mono (Nat.zero_le _) (low_set hLo i rfl)), ⟨by rw [List.length_set]; exact hLl, low_set hLo i rfl⟩, cutH_same (show b + 8 < b + 10 by omega) ((g (b + 8) (by omega) _).trans h8) (by simp [sgX, lowCs, lowC]), by refine Evf @e16 ?_; exact cutV_ptr (show b + 8 < b + 10 by omega), by exact Ecf @e99, by exact Er⟩
   ·refine Bff @hlt ?_
    refine AWP.exit ?_
    refine Ev ?_
    exact hT6.of rfl ⟨by exact Er, by exact Er, by exact Er, by exact Er⟩ (fun _ _ => rfl)
 clear ho hb hb1 e3 e7 e8 e16 e21 h8 kd2 t hh
 rintro ⟨t, hh, n⟩ ⟨hn1, ho, hb, hb1, e3, e7, e8, e21⟩
 simp only at hn1 ho hb hb1 e3 e7 e8 e21
 subst hn1
 refine AWP.seqReg (by kernel_rfl) (fun E K hE hK => ?_); simp -implicitDefEqProofs only [go_sem, ↓reduceIte, Nat.reduceEqDiff, Nat.reduceAdd, Nat.reduceLT, Nat.reduceLeDiff, reduceCtorEq, Int.toNat_natCast, e3, e7, e8, e21, hb, hb1, encSg]
 refine Us (rSameS_ok s z _ _) body_28 ?_
 refine hK _ _ _ ?_; clear hE hK K E
 refine AWP.ret ?_
 exact fin _ _ _ (by exact Er) ho
end Go.Proofs.YtihgnpboabpchaaGreatDoor
