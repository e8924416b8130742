/-
  Walks of package table: Put.
-/
import Derived.Test.YtengjcdilnikhaaDoorTbW1
import Derived.Test.YtengjcdilnikhaaDoorSlFl3
namespace Go.Proofs.YtengjcdilnikhaaDoor
set_option linter.unusedSimpArgs false
set_option linter.unusedVariables false
set_option linter.unnecessarySimpa false
open Go Am
set_option maxRecDepth 100000

theorem row_setF (l : List Fl) (T : List Cell) (k : Nat) (hk : k < l.length) (f : Fl) :
    List.take (k * 6) (List.map Cell.p (l.map encF).flatten ++ T) ++ .p (.v (.string (mkS f.name))) :: .p (.v (.float .f64 f.rank)) :: .p (.v (.int .u32 f.sum)) :: .p (.v (.int .i64 f.blk)) :: .p (.v (.int .i64 f.frm)) :: .p (.v (.int .i64 f.len)) :: List.drop (k * 6 + 6) (List.map Cell.p (l.map encF).flatten ++ T) = ((l.set k f).map encF).flatten.map .p ++ T := by
  have h := spl_row (es := l.map encF) (fs := [encF f]) (i := k) T (okEs_fl l) (okEs_fl [f]) (by simp; omega)
  have e : l.set k f = l.take k ++ (f :: l.drop (k + 1)) := by rw [List.set_eq_take_append_cons_drop, if_pos hk]
  rw [e]
  simpa [spl, encF] using h

theorem view_rowF {h : Heap} {D : Nat → Bool} {id : Nat} (f : Fl) (hD : D id = true) (hb : h id = some ⟨0, (encF f).map .p⟩) : ViewC h D (.win id 0 0 1 1) (.p (.sl 6 [encF f])) := by
  have hf := okEs_fl [f]
  refine .p (.win (blk := ⟨0, (encF f).map .p⟩) (fun i k => .p (([encF f].getD i []).getD k (.v undef))) hD hb rfl rfl (fun e he => hf.len e (by simpa using he)) (fun i e he k x hx => ?_) (fun i e he k x hx => ?_))
  · match i with
    | 0 =>
      simp only [List.getElem?_cons_zero, Option.some.injEq] at he
      subst he
      show ((encF f).map Cell.p)[0 + (0 * 6 + k)]? = some (.p ((encF f).getD k (.v undef)))
      rw [show 0 + (0 * 6 + k) = k by omega, List.getElem?_map, hx, List.getD_eq_getElem?_getD, hx]; rfl
    | i + 1 => simp at he
  · match i with
    | 0 =>
      simp only [List.getElem?_cons_zero, Option.some.injEq] at he
      subst he
      show View h D (.p ((encF f).getD k (.v undef))) x
      rw [List.getD_eq_getElem?_getD, hx]
      exact .p x
    | i + 1 => simp at he

theorem Put_ok (l : List Fl) (f : Fl) (hl : l.length ≤ 1000000) (h : Heap) (b : Nat) :
    ACalls Tryd.prog 36 [FlsV l, FlV f] h b 0 (fun r h' => r = .tup [FlsV (putR l f).1, IntV (putR l f).2] ∧ h' = h) := by
  refine ACalls.enter Tryd.func36 rfl (by simp [Tryd.ntmps36]) (fun ι w hn H => ?_)
  have hlm : (l.map encF).length = l.length := List.length_map _
  have fin : ∀ (t : Nat → AV) (hh : Heap) (n : Nat) (e : Int), t 4 = .one (.p (.v (.slice none 0 0))) → t 5 = IntV e → (∀ id, id < b → hh id = h id) → ([], e) = putR l f → Am.Ends Tryd.prog ⟨Tryd.f36.ntmps, b, ι, h, w, x0⟩ Tryd.f36 0 (fun r h' => r = .tup [FlsV (putR l f).1, IntV (putR l f).2] ∧ h' = h) ⟨t, hh, n⟩ := by
    intro t hh n e ht ht2 ho hv
    exact Ends.pure hn H ho (r0 := .tup [.one (.p (.v (.slice none 0 0))), IntV e]) (by rw [show Tryd.f36.results.toList = [.tmp 4, .tmp 5] from rfl]; exact Ecf (jn2 @ht @ht2)) (frz_tup2 (.one (frz_nil 6)) (.v _)) ⟨by rw [← hv]; rfl, rfl⟩
  have fin2 : ∀ (t : Nat → AV) (hh : Heap) (n : Nat) (m : List Fl), t 4 = FlsV m → t 5 = IntV 0 → (∀ id, id < b → hh id = h id) → (m, 0) = putR l f → Am.Ends Tryd.prog ⟨Tryd.f36.ntmps, b, ι, h, w, x0⟩ Tryd.f36 0 (fun r h' => r = .tup [FlsV (putR l f).1, IntV (putR l f).2] ∧ h' = h) ⟨t, hh, n⟩ := by
    intro t hh n m ht ht2 ho hv
    exact Ends.pure hn H ho (r0 := .tup [FlsV m, IntV 0]) (by rw [show Tryd.f36.results.toList = [.tmp 4, .tmp 5] from rfl]; exact Ecf (jn2 @ht @ht2)) (frz_tup2 (frzV.p _) (.v _)) ⟨by rw [← hv], rfl⟩
  refine Rk ?_
  by_cases hbad : checkT l ≠ 0 ∨ chkN f.name ≠ 0
  · have hfr : findR l f.name = (0, false, 1) := by unfold findR; rw [if_pos hbad]
    refine Rg (fun E K hE hK => ?_)
    refine Us (find_ok l f.name hl _ _) body_73 ?_
    refine Evf @hfr ?_
    refine hK _ _ _ ?_; clear hE hK K E
    refine AWP.seq ?_
    refine AWP.block ?_
    refine Rk ?_
    refine Bt ?_
    refine Rk ?_
    refine AWP.ret ?_
    refine Ev ?_
    exact fin _ _ _ 1 (by exact Er) (by exact Er) Ou (by unfold putR; rw [if_pos (by rcases hbad with h | h; exact .inl h; exact .inr (.inl h))])
  have hfr : findR l f.name = (kL f.name l, hasL f.name l, 0) := by unfold findR; rw [if_neg hbad]
  have hck : checkT l = 0 := by
    by_cases q : checkT l = 0
    · exact q
    · exact absurd (.inl q) hbad
  have hcn : chkN f.name = 0 := by
    by_cases q : chkN f.name = 0
    · exact q
    · exact absurd (.inr q) hbad
  have hl256 := (checkT_zero.1 hck).1
  have hkl := kL_le f.name l
  cases hmy : mayF f
  · cases hhas : hasL f.name l
    all_goals
      refine Rg (fun E K hE hK => ?_)
      refine Us (find_ok l f.name hl _ _) body_73 ?_
      refine Evf (jn2 @hfr @hhas) ?_
      refine hK _ _ _ ?_; clear hE hK K E
      refine AWP.seq ?_
      refine AWP.block ?_
      refine Rg (fun E K hE hK => ?_)
      refine Us (mayF_ok f _ _) body_74 ?_
      refine Evf @hmy ?_
      refine hK _ _ _ ?_; clear hE hK K E
      refine Bt ?_
      refine Rk ?_
      refine AWP.ret ?_
      refine Ev ?_
      exact fin _ _ _ 1 (by exact Er) (by exact Er) Ou (by unfold putR; rw [if_pos (.inr (.inr (by simp [hmy])))])
  have hok : ¬ (checkT l ≠ 0 ∨ chkN f.name ≠ 0 ∨ mayF f ≠ true) := by simp [hck, hcn, hmy]
  cases hhas : hasL f.name l
  · refine Rg (fun E K hE hK => ?_)
    refine Us (find_ok l f.name hl _ _) body_73 ?_
    refine Evf (jn2 @hfr @hhas) ?_
    refine hK _ _ _ ?_; clear hE hK K E
    refine AWP.seq ?_
    refine AWP.block ?_
    refine Rg (fun E K hE hK => ?_)
    refine Us (mayF_ok f _ _) body_74 ?_
    refine Evf @hmy ?_
    refine hK _ _ _ ?_; clear hE hK K E
    refine Bf ?_
    refine Rk ?_
    refine Bf ?_
    by_cases hfull : (l.length : Int) = 256
    · refine Rkf (jn2 @hlm @hfull) ?_
      refine Bt ?_
      refine Rk ?_
      refine AWP.ret ?_
      refine Ev ?_
      exact fin _ _ _ 6 (by exact Er) (by exact Er) Ou (by unfold putR; rw [if_neg hok, if_neg (by simp [hhas]), if_pos (by omega)])
    · refine Rkf (jn2 @hlm @hfull) ?_
      refine Bf ?_
      refine AWP.skip ?_
      refine Ev ?_
      have hput := putL_new hhas
      obtain ⟨H1, hH1⟩ : ∃ H1, upd h b ⟨0, (encF f).map .p⟩ = H1 := ⟨_, rfl⟩
      have hB : H1 b = some ⟨0, (encF f).map .p⟩ := by rw [← hH1]; exact upd_same _ _ _
      have hO : ∀ id, id < b → H1 id = h id := by rw [← hH1]; exact Ou
      have hH1' : upd h b ⟨0, [.p (.v (.string (mkS f.name))), .p (.v (.float .f64 f.rank)), .p (.v (.int .u32 f.sum)), .p (.v (.int .i64 f.blk)), .p (.v (.int .i64 f.frm)), .p (.v (.int .i64 f.len))]⟩ = H1 := hH1
      rw [hH1']
      refine AWP.known (fun hnew => ?_)
      have hnew1 : H1 (b + 1) = none := hnew _ (Nat.le_refl _)
      have hnew2 : H1 (b + 2) = none := hnew _ (Nat.le_succ _)
      refine AWP.seqRegD [] [] [] mixed (by kernel_rfl) (by kernel_rfl) (fun K hK => .inl ?_) (by kernel_rfl); simp -implicitDefEqProofs only [go_sem, ↓reduceIte, Nat.reduceEqDiff, Nat.reduceAdd, Nat.reduceLT, Nat.reduceLeDiff, reduceCtorEq, Int.toNat_natCast, hB, encF]
      refine CallD.use (clone_fl_ok (l.map encF) (okEs_fl l) _ _ (by rw [hlm]; omega)) body_75 ?_
      rintro _ _ ⟨ver, cap, T, g1, g2, g3, rfl, rfl⟩
      refine ⟨(Sub.refl H1).new hnew1, ?_⟩
      rw [hlm] at g1 g2
      simp -implicitDefEqProofs only [go_sem, ↓reduceIte, Nat.reduceEqDiff, Nat.reduceAdd, Nat.reduceLT, Nat.reduceLeDiff, reduceCtorEq, Int.toNat_natCast, hlm, hB, encF]
      refine CallD.use ((insert_fl_ok (l.map encF) [encF f] (okEs_fl l) (okEs_fl [f]) _ _ (b + 1) ver cap (kL f.name l) T (Nat.lt_succ_self _) (upd_same _ _ _) g3 (by rw [hlm]; exact g1) (by rw [hlm]; exact g2) (by rw [hlm]; exact hkl) (by rw [hlm]; omega) (by simp)).arg_eq (by rw [hlm])) body_76 ?_
      rintro _ _ ⟨ver', cap', T', k1, k2, k3, rfl, rfl⟩
      have hdr : (l.map encF).take (kL f.name l) ++ ([encF f] ++ (l.map encF).drop (kL f.name l)) = (putL f l).map encF := by
        rw [hput, List.map_append, List.map_cons, List.map_take, List.map_drop]; rfl
      rw [hdr, List.length_map] at k1 k2
      rw [hdr, List.length_map, upd_upd]
      refine ⟨(Sub.refl H1).new hnew1, ?_⟩
      refine Evf @hB ?_
      refine hK _ _ _ ?_; clear hK K
      refine AWP.frz 4 (cap := cap') (len := (putL f l).length) (off := 0) (id := b + 1) 6 ((putL f l).map encF) (by exact Er) (by exact Er) rfl (by rw [List.length_map]) (okEs_fl _).len (row_cells (okEs_fl _) ver' _) ?_
      refine AWP.ret ?_
      refine Ev ?_
      exact fin2 _ _ _ (putL f l) (by exact Er) (by exact Er) (fun id (hid : id < b) => by simp -implicitDefEqProofs only [go_sem, ↓reduceIte, Nat.reduceEqDiff, Nat.reduceAdd, Nat.reduceLT, Nat.reduceLeDiff, reduceCtorEq, Int.toNat_natCast, delH, show ¬ id = b + 1 by omega, hO id hid]) (by unfold putR; rw [if_neg hok, if_neg (by simp [hhas]), if_neg (by omega)])
  · obtain ⟨hk, hk2⟩ := hasL_k.1 hhas
    have hput := putL_has hhas
    have hkn : ((kL f.name l : Nat) : Int) < l.length := by omega
    refine Rg (fun E K hE hK => ?_)
    refine Us (find_ok l f.name hl _ _) body_73 ?_
    refine Evf (jn2 @hfr @hhas) ?_
    refine hK _ _ _ ?_; clear hE hK K E
    refine AWP.seq ?_
    refine AWP.block ?_
    refine Rg (fun E K hE hK => ?_)
    refine Us (mayF_ok f _ _) body_74 ?_
    refine Evf @hmy ?_
    refine hK _ _ _ ?_; clear hE hK K E
    refine Bf ?_
    refine Rk ?_
    refine Bt ?_
    refine Rg (fun E K hE hK => ?_)
    refine CallR.use (clone_fl_ok (l.map encF) (okEs_fl l) _ _ (by rw [hlm]; omega)) body_75 ?_
    rintro _ _ ⟨ver, cap, T, g1, g2, g3, rfl, rfl⟩
    rw [hlm] at g1 g2
    refine Evf @hlm ?_
    refine hK _ _ _ ?_; clear hE hK K E
    have hset := row_setF l T (kL f.name l) hk f
    refine Rgf @hkn (fun E K hE hK => ?_)
    refine ⟨by omega, by rw [List.length_append, List.length_map, okEs_len (okEs_fl l), hlm]; omega, ?_⟩
    rw [hset]
    refine hK _ _ _ ?_; clear hE hK K E
    refine Rk ?_
    have hrowS : ∀ hh : Heap, upd hh (b + 1) ⟨ver, List.map Cell.p ((l.set (kL f.name l) f).map encF).flatten ++ T⟩ = upd hh (b + 1) (rowB ver ((l.set (kL f.name l) f).map encF) T) := fun _ => rfl
    rw [hrowS]
    refine AWP.frz 4 (cap := cap) (len := l.length) (off := 0) (id := b + 1) 6 ((l.set (kL f.name l) f).map encF) (by exact Er) (by exact Er) rfl (by rw [List.length_map, List.length_set]) (okEs_fl _).len (row_cells (okEs_fl _) ver _) ?_
    refine AWP.ret ?_
    refine Ev ?_
    exact fin2 _ _ _ (l.set (kL f.name l) f) (by exact Er) (by exact Er) (fun id (hid : id < b) => by simp -implicitDefEqProofs only [go_sem, ↓reduceIte, Nat.reduceEqDiff, Nat.reduceAdd, Nat.reduceLT, Nat.reduceLeDiff, reduceCtorEq, Int.toNat_natCast, delH, show ¬ id = b by omega, show ¬ id = b + 1 by omega]) (by unfold putR; rw [if_neg hok, if_pos hhas, hput])
end Go.Proofs.YtengjcdilnikhaaDoor
