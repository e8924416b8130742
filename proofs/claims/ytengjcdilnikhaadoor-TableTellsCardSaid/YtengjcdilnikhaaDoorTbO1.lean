/-
  Walks of package table: what Put and Del answer, as own rows; Walks of package table: what Move answers, as an own row.
-/
import Derived.Test.YtengjcdilnikhaaDoorTbW4
import Derived.Test.YtengjcdilnikhaaDoorTbSpec
import Derived.Test.YtengjcdilnikhaaDoorAmLend
import Derived.Test.YtengjcdilnikhaaDoorAmMore
namespace Go.Proofs.YtengjcdilnikhaaDoor
set_option linter.unusedSimpArgs false
set_option linter.unusedVariables false
set_option linter.unnecessarySimpa false
open Go Am
set_option maxRecDepth 100000

theorem PutO_ok (l : List Fl) (f : Fl) (hl : l.length ≤ 1000000) (h : Heap) (b : Nat) :
    ACalls Tryd.prog 36 [FlsV l, FlV f] h b 1 (ownT (putR l f) h b) := by
  refine ACalls.enter Tryd.func36 rfl (by simp [Tryd.ntmps36]) (fun ι w hn H => ?_)
  have hlm : (l.map encF).length = l.length := List.length_map _
  have fin : ∀ (t : Nat → AV) (hh : Heap) (n : Nat) (ver cap : Nat) (T : List Cell) (m : List Fl) (id : Nat) (e : Int), t 4 = .one (.win id ver 0 m.length cap) → t 5 = IntV e → hh id = some (rowB ver (m.map encF) T) → b ≤ id → (∀ id, id < b → hh id = h id) → (m, e) = putR l f → m.length ≤ cap → cap * 6 = m.length * 6 + T.length → lowCs 0 T = true → Am.Ends Tryd.prog ⟨Tryd.f36.ntmps, b, ι, h, w, x0⟩ Tryd.f36 1 (ownT (putR l f) h b) ⟨t, hh, n⟩ := by
    intro t hh n ver cap T m id e ht ht2 hb hid ho hv q1 q2 q3
    refine Ends.row (id := id) (blk := rowB ver (m.map encF) T) hn H ho hid hb (lowCs_app (lowCs_p _ _) (lowCs_mono (Nat.zero_le _) q3)) (r0 := .tup [.one (.win id ver 0 m.length cap), IntV e]) (by rw [show Tryd.f36.results.toList = [.tmp 4, .tmp 5] from rfl]; exact Ecf (jn2 @ht @ht2)) (renV_tup2 (renV.win0 _ _ _ _) (renV.v _)) ?_
    rw [← hv]
    exact ⟨ver, cap, T, q1, q2, q3, rfl, rfl⟩
  refine Rk ?_
  by_cases hbad : checkT l ≠ 0 ∨ chkN f.name ≠ 0
  · have hfr : findR l f.name = (0, false, 1) := by unfold findR; rw [if_pos hbad]
    refine Rg (fun E K hE hK => ?_)
    refine Us (find_ok l f.name hl _ _) body_73 ?_
    refine Evf @hfr ?_
    refine hK _ _ _ ?_; clear hE hK K E
    refine AWP.seq ?_
    refine AWP.block ?_
    refine Rk ?_
    refine Bt ?_
    refine Rk ?_
    refine AWP.virt 4 (by exact Er) ?_
    refine AWP.ret ?_
    refine Ev ?_
    exact fin _ _ _ 0 0 [] [] (b + 1) 1 (by exact Er) (by exact Er) (by exact Er) (by omega) Ou (by unfold putR; rw [if_pos (by rcases hbad with h | h; exact .inl h; exact .inr (.inl h))]) (Nat.le_refl _) rfl rfl
  have hfr : findR l f.name = (kL f.name l, hasL f.name l, 0) := by unfold findR; rw [if_neg hbad]
  have hck : checkT l = 0 := by
    by_cases q : checkT l = 0
    · exact q
    · exact absurd (.inl q) hbad
  have hcn : chkN f.name = 0 := by
    by_cases q : chkN f.name = 0
    · exact q
    · exact absurd (.inr q) hbad
  have hl256 := (checkT_zero.1 hck).1
  have hkl := kL_le f.name l
  cases hmy : mayF f
  · cases hhas : hasL f.name l
    all_goals
      refine Rg (fun E K hE hK => ?_)
      refine Us (find_ok l f.name hl _ _) body_73 ?_
      refine Evf (jn2 @hfr @hhas) ?_
      refine hK _ _ _ ?_; clear hE hK K E
      refine AWP.seq ?_
      refine AWP.block ?_
      refine Rg (fun E K hE hK => ?_)
      refine Us (mayF_ok f _ _) body_74 ?_
      refine Evf @hmy ?_
      refine hK _ _ _ ?_; clear hE hK K E
      refine Bt ?_
      refine Rk ?_
      refine AWP.virt 4 (by exact Er) ?_
      refine AWP.ret ?_
      refine Ev ?_
      exact fin _ _ _ 0 0 [] [] (b + 1) 1 (by exact Er) (by exact Er) (by exact Er) (by omega) Ou (by unfold putR; rw [if_pos (.inr (.inr (by simp [hmy])))]) (Nat.le_refl _) rfl rfl
  have hok : ¬ (checkT l ≠ 0 ∨ chkN f.name ≠ 0 ∨ mayF f ≠ true) := by simp [hck, hcn, hmy]
  cases hhas : hasL f.name l
  · refine Rg (fun E K hE hK => ?_)
    refine Us (find_ok l f.name hl _ _) body_73 ?_
    refine Evf (jn2 @hfr @hhas) ?_
    refine hK _ _ _ ?_; clear hE hK K E
    refine AWP.seq ?_
    refine AWP.block ?_
    refine Rg (fun E K hE hK => ?_)
    refine Us (mayF_ok f _ _) body_74 ?_
    refine Evf @hmy ?_
    refine hK _ _ _ ?_; clear hE hK K E
    refine Bf ?_
    refine Rk ?_
    refine Bf ?_
    by_cases hfull : (l.length : Int) = 256
    · refine Rkf (jn2 @hlm @hfull) ?_
      refine Bt ?_
      refine Rk ?_
      refine AWP.virt 4 (by exact Er) ?_
      refine AWP.ret ?_
      refine Ev ?_
      exact fin _ _ _ 0 0 [] [] (b + 1) 6 (by exact Er) (by exact Er) (by exact Er) (by omega) Ou (by unfold putR; rw [if_neg hok, if_neg (by simp [hhas]), if_pos (by omega)]) (Nat.le_refl _) rfl rfl
    · refine Rkf (jn2 @hlm @hfull) ?_
      refine Bf ?_
      refine AWP.skip ?_
      refine Ev ?_
      have hput := putL_new hhas
      obtain ⟨H1, hH1⟩ : ∃ H1, upd h b ⟨0, (encF f).map .p⟩ = H1 := ⟨_, rfl⟩
      have hB : H1 b = some ⟨0, (encF f).map .p⟩ := by rw [← hH1]; exact upd_same _ _ _
      have hO : ∀ id, id < b → H1 id = h id := by rw [← hH1]; exact Ou
      have hH1' : upd h b ⟨0, [.p (.v (.string (mkS f.name))), .p (.v (.float .f64 f.rank)), .p (.v (.int .u32 f.sum)), .p (.v (.int .i64 f.blk)), .p (.v (.int .i64 f.frm)), .p (.v (.int .i64 f.len))]⟩ = H1 := hH1
      rw [hH1']
      refine AWP.known (fun hnew => ?_)
      have hnew1 : H1 (b + 1) = none := hnew _ (Nat.le_refl _)
      have hnew2 : H1 (b + 2) = none := hnew _ (Nat.le_succ _)
      refine AWP.seqRegD [] [] [] mixed (by kernel_rfl) (by kernel_rfl) (fun K hK => .inl ?_) (by kernel_rfl); simp -implicitDefEqProofs only [go_sem, ↓reduceIte, Nat.reduceEqDiff, Nat.reduceAdd, Nat.reduceLT, Nat.reduceLeDiff, reduceCtorEq, Int.toNat_natCast, hB, encF]
      refine CallD.use (clone_fl_ok (l.map encF) (okEs_fl l) _ _ (by rw [hlm]; omega)) body_75 ?_
      rintro _ _ ⟨ver, cap, T, g1, g2, g3, rfl, rfl⟩
      refine ⟨(Sub.refl H1).new hnew1, ?_⟩
      rw [hlm] at g1 g2
      simp -implicitDefEqProofs only [go_sem, ↓reduceIte, Nat.reduceEqDiff, Nat.reduceAdd, Nat.reduceLT, Nat.reduceLeDiff, reduceCtorEq, Int.toNat_natCast, hlm, hB, encF]
      refine CallD.use ((insert_fl_ok (l.map encF) [encF f] (okEs_fl l) (okEs_fl [f]) _ _ (b + 1) ver cap (kL f.name l) T (Nat.lt_succ_self _) (upd_same _ _ _) g3 (by rw [hlm]; exact g1) (by rw [hlm]; exact g2) (by rw [hlm]; exact hkl) (by rw [hlm]; omega) (by simp)).arg_eq (by rw [hlm])) body_76 ?_
      rintro _ _ ⟨ver', cap', T', k1, k2, k3, rfl, rfl⟩
      have hdr : (l.map encF).take (kL f.name l) ++ ([encF f] ++ (l.map encF).drop (kL f.name l)) = (putL f l).map encF := by
        rw [hput, List.map_append, List.map_cons, List.map_take, List.map_drop]; rfl
      rw [hdr, List.length_map] at k1 k2
      rw [hdr, List.length_map, upd_upd]
      refine ⟨(Sub.refl H1).new hnew1, ?_⟩
      refine Evf @hB ?_
      refine hK _ _ _ ?_; clear hK K
      refine AWP.ret ?_
      refine Ev ?_
      exact fin _ _ _ ver' cap' T' (putL f l) (b + 1) 0 (by exact Er) (by exact Er) (by exact Er) (Nat.le_succ _) (fun id (hid : id < b) => by exact Ecf (jn2 (show ¬ id = b + 1 by omega) (hO id hid))) (by unfold putR; rw [if_neg hok, if_neg (by simp [hhas]), if_neg (by omega)]) k1 k2 k3
  · obtain ⟨hk, hk2⟩ := hasL_k.1 hhas
    have hput := putL_has hhas
    have hkn : ((kL f.name l : Nat) : Int) < l.length := by omega
    refine Rg (fun E K hE hK => ?_)
    refine Us (find_ok l f.name hl _ _) body_73 ?_
    refine Evf (jn2 @hfr @hhas) ?_
    refine hK _ _ _ ?_; clear hE hK K E
    refine AWP.seq ?_
    refine AWP.block ?_
    refine Rg (fun E K hE hK => ?_)
    refine Us (mayF_ok f _ _) body_74 ?_
    refine Evf @hmy ?_
    refine hK _ _ _ ?_; clear hE hK K E
    refine Bf ?_
    refine Rk ?_
    refine Bt ?_
    refine Rg (fun E K hE hK => ?_)
    refine CallR.use (clone_fl_ok (l.map encF) (okEs_fl l) _ _ (by rw [hlm]; omega)) body_75 ?_
    rintro _ _ ⟨ver, cap, T, g1, g2, g3, rfl, rfl⟩
    rw [hlm] at g1 g2
    refine Evf @hlm ?_
    refine hK _ _ _ ?_; clear hE hK K E
    have hset := row_setF l T (kL f.name l) hk f
    refine Rgf @hkn (fun E K hE hK => ?_)
    refine ⟨by omega, by rw [List.length_append, List.length_map, okEs_len (okEs_fl l), hlm]; omega, ?_⟩
    rw [hset]
    refine hK _ _ _ ?_; clear hE hK K E
    refine Rk ?_
    have hrowS : ∀ hh : Heap, upd hh (b + 1) ⟨ver, List.map Cell.p ((l.set (kL f.name l) f).map encF).flatten ++ T⟩ = upd hh (b + 1) (rowB ver ((l.set (kL f.name l) f).map encF) T) := fun _ => rfl
    rw [hrowS]
    refine AWP.ret ?_
    refine Ev ?_
    exact fin _ _ _ ver cap T (l.set (kL f.name l) f) (b + 1) 0 (by rw [List.length_set]; exact Er) (by exact Er) (by exact Er) (Nat.le_succ _) Ou (by unfold putR; rw [if_neg hok, if_pos hhas, hput]) (by rw [List.length_set]; exact g1) (by rw [List.length_set]; exact g2) g3
theorem DelO_ok (l : List Fl) (p : S) (hl : l.length ≤ 1000000) (h : Heap) (b : Nat) :
    ACalls Tryd.prog 37 [FlsV l, StrV p] h b 1 (ownT (delR l p) h b) := by
  refine ACalls.enter Tryd.func37 rfl (by simp [Tryd.ntmps37]) (fun ι w hn H => ?_)
  have hlm : (l.map encF).length = l.length := List.length_map _
  have fin : ∀ (t : Nat → AV) (hh : Heap) (n : Nat) (ver cap : Nat) (T : List Cell) (m : List Fl) (id : Nat) (e : Int), t 4 = .one (.win id ver 0 m.length cap) → t 5 = IntV e → hh id = some (rowB ver (m.map encF) T) → b ≤ id → (∀ id, id < b → hh id = h id) → (m, e) = delR l p → m.length ≤ cap → cap * 6 = m.length * 6 + T.length → lowCs 0 T = true → Am.Ends Tryd.prog ⟨Tryd.f37.ntmps, b, ι, h, w, x0⟩ Tryd.f37 1 (ownT (delR l p) h b) ⟨t, hh, n⟩ := by
    intro t hh n ver cap T m id e ht ht2 hb hid ho hv q1 q2 q3
    refine Ends.row (id := id) (blk := rowB ver (m.map encF) T) hn H ho hid hb (lowCs_app (lowCs_p _ _) (lowCs_mono (Nat.zero_le _) q3)) (r0 := .tup [.one (.win id ver 0 m.length cap), IntV e]) (by rw [show Tryd.f37.results.toList = [.tmp 4, .tmp 5] from rfl]; exact Ecf (jn2 @ht @ht2)) (renV_tup2 (renV.win0 _ _ _ _) (renV.v _)) ?_
    rw [← hv]
    exact ⟨ver, cap, T, q1, q2, q3, rfl, rfl⟩
  refine Rk ?_
  by_cases hbad : checkT l ≠ 0 ∨ chkN p ≠ 0
  · have hfr : findR l p = (0, false, 1) := by unfold findR; rw [if_pos hbad]
    refine Rg (fun E K hE hK => ?_)
    refine Us (find_ok l p hl _ _) body_73 ?_
    refine Evf @hfr ?_
    refine hK _ _ _ ?_; clear hE hK K E
    refine AWP.seq ?_
    refine AWP.block ?_
    refine Rk ?_
    refine Bt ?_
    refine Rk ?_
    refine AWP.virt 4 (by exact Er) ?_
    refine AWP.ret ?_
    refine Ev ?_
    exact fin _ _ _ 0 0 [] [] (b) 1 (by exact Er) (by exact Er) (by exact Er) (by omega) Ou (by unfold delR; rw [if_pos hbad]) (Nat.le_refl _) rfl rfl
  have hfr : findR l p = (kL p l, hasL p l, 0) := by unfold findR; rw [if_neg hbad]
  cases hhas : hasL p l
  · refine Rg (fun E K hE hK => ?_)
    refine Us (find_ok l p hl _ _) body_73 ?_
    refine Evf (jn2 @hfr @hhas) ?_
    refine hK _ _ _ ?_; clear hE hK K E
    refine AWP.seq ?_
    refine AWP.block ?_
    refine Rk ?_
    refine Bf ?_
    refine Rk ?_
    refine Bt ?_
    refine Rk ?_
    refine AWP.virt 4 (by exact Er) ?_
    refine AWP.ret ?_
    refine Ev ?_
    exact fin _ _ _ 0 0 [] [] (b) 4 (by exact Er) (by exact Er) (by exact Er) (by omega) Ou (by unfold delR; rw [if_neg hbad, if_neg (by simp [hhas])]) (Nat.le_refl _) rfl rfl
  · obtain ⟨hk, hk2⟩ := hasL_k.1 hhas
    have hdel := delL_has hhas
    have hw1 : IntKind.i64.wrap (((kL p l : Nat) : Int) + 1) = ((kL p l + 1 : Nat) : Int) := by rw [wrap_i64 (by omega) (by omega)]; rfl
    refine Rg (fun E K hE hK => ?_)
    refine Us (find_ok l p hl _ _) body_73 ?_
    refine Evf (jn2 @hfr @hhas) ?_
    refine hK _ _ _ ?_; clear hE hK K E
    refine AWP.seq ?_
    refine AWP.block ?_
    refine Rk ?_
    refine Bf ?_
    refine Rk ?_
    refine Bf ?_
    refine AWP.skip ?_
    refine Ev ?_
    refine Rg (fun E K hE hK => ?_)
    refine CallR.use (clone_fl_ok (l.map encF) (okEs_fl l) _ _ (by rw [hlm]; omega)) body_75 ?_
    rintro _ _ ⟨ver, cap, T, g1, g2, g3, rfl, rfl⟩
    rw [hlm] at g1 g2
    refine Evf (jn2 @hlm @hw1) ?_
    refine CallR.use ((delete_fl_ok (l.map encF) (okEs_fl l) _ _ b ver cap (kL p l) (kL p l + 1) T (Nat.lt_succ_self _) (upd_same _ _ _) g3 (by rw [hlm]; exact g1) (by rw [hlm]; exact g2) (Nat.lt_succ_self _) (by rw [hlm]; omega) (by rw [hlm]; omega)).arg_eq (by rw [hlm])) body_77 ?_
    rintro _ _ ⟨ver', cap', T', k1, k2, k3, rfl, rfl⟩
    have hdr : (l.map encF).take (kL p l) ++ (l.map encF).drop (kL p l + 1) = (delL p l).map encF := by
      rw [hdel, List.map_append, List.map_take, List.map_drop]
    rw [hdr, List.length_map] at k1 k2
    rw [hdr, List.length_map, upd_upd]
    refine Ev ?_
    refine hK _ _ _ ?_; clear hE hK K E
    refine AWP.ret ?_
    refine Ev ?_
    exact fin _ _ _ ver' cap' T' (delL p l) b 0 (by exact Er) (by exact Er) (by exact Er) (Nat.le_refl _) Ou (by unfold delR; rw [if_neg hbad, if_pos hhas]) k1 k2 k3


end Go.Proofs.YtengjcdilnikhaaDoor

namespace Go.Proofs.YtengjcdilnikhaaDoor
set_option linter.unusedSimpArgs false
set_option linter.unusedVariables false
set_option linter.unnecessarySimpa false
open Go Am
set_option maxRecDepth 100000

/-! ### Move -/
theorem MoveO_ok (l : List Fl) (p q : S) (hl : l.length ≤ 1000000) (h : Heap) (b : Nat) :
    ACalls Tryd.prog 38 [FlsV l, StrV p, StrV q] h b 1 (ownT (movR l p q) h b) := by
  refine ACalls.enter Tryd.func38 rfl (by simp [Tryd.ntmps38]) (fun ι w hn H => ?_)
  have hlm : (l.map encF).length = l.length := List.length_map _
  have fin : ∀ (t : Nat → AV) (hh : Heap) (n : Nat) (ver cap : Nat) (T : List Cell) (m : List Fl) (id : Nat) (e : Int), t 6 = .one (.win id ver 0 m.length cap) → t 7 = IntV e → hh id = some (rowB ver (m.map encF) T) → b ≤ id → (∀ id, id < b → hh id = h id) → (m, e) = movR l p q → m.length ≤ cap → cap * 6 = m.length * 6 + T.length → lowCs 0 T = true → Am.Ends Tryd.prog ⟨Tryd.f38.ntmps, b, ι, h, w, x0⟩ Tryd.f38 1 (ownT (movR l p q) h b) ⟨t, hh, n⟩ := by
    intro t hh n ver cap T m id e ht ht2 hb hid ho hv q1 q2 q3
    refine Ends.row (id := id) (blk := rowB ver (m.map encF) T) hn H ho hid hb (lowCs_app (lowCs_p _ _) (lowCs_mono (Nat.zero_le _) q3)) (r0 := .tup [.one (.win id ver 0 m.length cap), IntV e]) (by rw [show Tryd.f38.results.toList = [.tmp 6, .tmp 7] from rfl]; exact Ecf (jn2 @ht @ht2)) (renV_tup2 (renV.win0 _ _ _ _) (renV.v _)) ?_
    rw [← hv]
    exact ⟨ver, cap, T, q1, q2, q3, rfl, rfl⟩
  refine Rk ?_
  by_cases hbad : checkT l ≠ 0 ∨ chkN p ≠ 0
  · have hfr : findR l p = (0, false, 1) := by unfold findR; rw [if_pos hbad]
    obtain ⟨k2, i2, e2, hfr2⟩ : ∃ k2 i2 e2, findR l q = (k2, i2, e2) := ⟨_, _, _, rfl⟩
    cases i2
    all_goals
      refine Rg (fun E K hE hK => ?_)
      refine Us (find_ok l p hl _ _) body_73 ?_
      refine Evf @hfr ?_
      refine hK _ _ _ ?_; clear hE hK K E
      refine Rg (fun E K hE hK => ?_)
      refine Us (find_ok l q hl _ _) body_73 ?_
      refine Evf @hfr2 ?_
      refine hK _ _ _ ?_; clear hE hK K E
      refine AWP.seq ?_
      refine AWP.block ?_
      refine Rk ?_
      refine Bt ?_
      refine Rk ?_
      refine AWP.virt 6 (by exact Er) ?_
      refine AWP.ret ?_
      refine Ev ?_
      exact fin _ _ _ 0 0 [] [] b 1 (by exact Er) (by exact Er) (by exact Er) (Nat.le_refl _) Ou (by unfold movR; rw [if_pos (by rcases hbad with h | h; exact .inl h; exact .inr (.inl h))]) (Nat.le_refl _) rfl rfl
  have hck : checkT l = 0 := by
    by_cases z : checkT l = 0
    · exact z
    · exact absurd (.inl z) hbad
  have hcp : chkN p = 0 := by
    by_cases z : chkN p = 0
    · exact z
    · exact absurd (.inr z) hbad
  have hfr : findR l p = (kL p l, hasL p l, 0) := by unfold findR; rw [if_neg hbad]
  by_cases hcq : chkN q = 0
  case neg =>
    have hfr2 : findR l q = (0, false, 1) := by unfold findR; rw [if_pos (.inr hcq)]
    cases hhas : hasL p l
    all_goals
      refine Rg (fun E K hE hK => ?_)
      refine Us (find_ok l p hl _ _) body_73 ?_
      refine Evf (jn2 @hfr @hhas) ?_
      refine hK _ _ _ ?_; clear hE hK K E
      refine Rg (fun E K hE hK => ?_)
      refine Us (find_ok l q hl _ _) body_73 ?_
      refine Evf @hfr2 ?_
      refine hK _ _ _ ?_; clear hE hK K E
      refine AWP.seq ?_
      refine AWP.block ?_
      refine Rk ?_
      refine Bt ?_
      refine Rk ?_
      refine AWP.virt 6 (by exact Er) ?_
      refine AWP.ret ?_
      refine Ev ?_
      exact fin _ _ _ 0 0 [] [] b 1 (by exact Er) (by exact Er) (by exact Er) (Nat.le_refl _) Ou (by unfold movR; rw [if_pos (.inr (.inr hcq))]) (Nat.le_refl _) rfl rfl
  have hfr2 : findR l q = (kL q l, hasL q l, 0) := by unfold findR; rw [if_neg (by simp [hck, hcq])]
  have hok : ¬ (checkT l ≠ 0 ∨ chkN p ≠ 0 ∨ chkN q ≠ 0) := by simp [hck, hcp, hcq]
  cases hhas : hasL p l
  · cases hhq : hasL q l
    all_goals
      refine Rg (fun E K hE hK => ?_)
      refine Us (find_ok l p hl _ _) body_73 ?_
      refine Evf (jn2 @hfr @hhas) ?_
      refine hK _ _ _ ?_; clear hE hK K E
      refine Rg (fun E K hE hK => ?_)
      refine Us (find_ok l q hl _ _) body_73 ?_
      refine Evf (jn2 @hfr2 @hhq) ?_
      refine hK _ _ _ ?_; clear hE hK K E
      refine AWP.seq ?_
      refine AWP.block ?_
      refine Rk ?_
      refine Bf ?_
      refine Rk ?_
      refine Bt ?_
      refine Rk ?_
      refine AWP.virt 6 (by exact Er) ?_
      refine AWP.ret ?_
      refine Ev ?_
      exact fin _ _ _ 0 0 [] [] b 4 (by exact Er) (by exact Er) (by exact Er) (Nat.le_refl _) Ou (by unfold movR; rw [if_neg hok, if_pos (by simp [hhas])]) (Nat.le_refl _) rfl rfl
  by_cases h5 : hasL q l = true ∧ p ≠ q
  · have hd : (p = q) = False := eq_false h5.2
    have hhq := h5.1
    refine Rg (fun E K hE hK => ?_)
    refine Us (find_ok l p hl _ _) body_73 ?_
    refine Evf (jn2 @hfr @hhas) ?_
    refine hK _ _ _ ?_; clear hE hK K E
    refine Rg (fun E K hE hK => ?_)
    refine Us (find_ok l q hl _ _) body_73 ?_
    refine Evf (jn2 @hfr2 @hhq) ?_
    refine hK _ _ _ ?_; clear hE hK K E
    refine AWP.seq ?_
    refine AWP.block ?_
    refine Rk ?_
    refine Bf ?_
    refine Rk ?_
    refine Bf ?_
    refine Rkf (jn2 @mkS_list @hd) ?_
    refine Bt ?_
    refine Rk ?_
    refine AWP.virt 6 (by exact Er) ?_
    refine AWP.ret ?_
    refine Ev ?_
    exact fin _ _ _ 0 0 [] [] b 5 (by exact Er) (by exact Er) (by exact Er) (Nat.le_refl _) Ou (by unfold movR; rw [if_neg hok, if_neg (by simp [hhas]), if_pos h5]) (Nat.le_refl _) rfl rfl
  obtain ⟨hk, hk2⟩ := hasL_k.1 hhas
  have hkn : ((kL p l : Nat) : Int) < l.length := by omega
  have hge := encF_getD l (kL p l) hk
  have hgd : l.getD (kL p l) ⟨[], 0, 0, 0, 0, 0⟩ = l[kL p l] := by simp [List.getD, hk]
  have hmp := mov_put (q := q) hck hcq hhas
  have hmv : movR l p q = putR (delL p l) { l[kL p l] with name := q } := by unfold movR; rw [if_neg hok, if_neg (by simp [hhas]), if_neg h5, hgd]
  rw [hgd] at hmp
  have hdel := delL_has hhas
  have hdl := delL_len p l
  obtain ⟨f0, hf0⟩ : ∃ f0, l[kL p l] = f0 := ⟨_, rfl⟩
  rw [hf0] at hge hmp hmv
  have hw1 : IntKind.i64.wrap (((kL p l : Nat) : Int) + 1) = ((kL p l + 1 : Nat) : Int) := by rw [wrap_i64 (by omega) (by omega)]; rfl
  rcases (show hasL q l = false ∨ (hasL q l = true ∧ p = q) by
    cases hz : hasL q l
    · exact .inl rfl
    · refine .inr ⟨rfl, ?_⟩
      by_cases z : p = q
      · exact z
      · exact absurd ⟨hz, z⟩ h5) with hhq | ⟨hhq, hpq⟩
  · refine Rg (fun E K hE hK => ?_)
    refine Us (find_ok l p hl _ _) body_73 ?_
    refine Evf (jn2 @hfr @hhas) ?_
    refine hK _ _ _ ?_; clear hE hK K E
    refine Rg (fun E K hE hK => ?_)
    refine Us (find_ok l q hl _ _) body_73 ?_
    refine Evf (jn2 @hfr2 @hhq) ?_
    refine hK _ _ _ ?_; clear hE hK K E
    refine AWP.seq ?_
    refine AWP.block ?_
    refine Rk ?_
    refine Bf ?_
    refine Rk ?_
    refine Bf ?_
    refine Rk ?_
    refine Bf ?_
    refine AWP.skip ?_
    refine Ev ?_
    refine Rgf (jn3 @hlm @hkn @hge) (fun E K hE hK => ?_)
    refine ⟨by omega, ?_⟩
    refine hK _ _ _ ?_; clear hE hK K E
    refine Rk ?_
    obtain ⟨H1, hH1⟩ : ∃ H1, upd h b ⟨0, [.p (.v (.string (mkS q))), .p (.v (.float .f64 f0.rank)), .p (.v (.int .u32 f0.sum)), .p (.v (.int .i64 f0.blk)), .p (.v (.int .i64 f0.frm)), .p (.v (.int .i64 f0.len))]⟩ = H1 := ⟨_, rfl⟩
    have hB : H1 b = some ⟨0, [.p (.v (.string (mkS q))), .p (.v (.float .f64 f0.rank)), .p (.v (.int .u32 f0.sum)), .p (.v (.int .i64 f0.blk)), .p (.v (.int .i64 f0.frm)), .p (.v (.int .i64 f0.len))]⟩ := by rw [← hH1]; exact upd_same _ _ _
    have hO : ∀ id, id < b → H1 id = h id := by rw [← hH1]; exact Ou
    rw [hH1]
    refine AWP.known (fun hnew => ?_)
    have hnew1 : H1 (b + 1) = none := hnew _ (Nat.le_refl _)
    have hnew2 : H1 (b + 2) = none := hnew _ (Nat.le_succ _)
    refine AWP.seqRegD [] [] [] mixed (by kernel_rfl) (by kernel_rfl) (fun K hK => .inl ?_) (by kernel_rfl); simp -implicitDefEqProofs only [go_sem, ↓reduceIte, Nat.reduceEqDiff, Nat.reduceAdd, Nat.reduceLT, Nat.reduceLeDiff, reduceCtorEq, Int.toNat_natCast, hw1, hB]
    refine CallD.use (clone_fl_ok (l.map encF) (okEs_fl l) _ _ (by rw [hlm]; omega)) body_75 ?_
    rintro _ _ ⟨ver, cap, T, g1, g2, g3, rfl, rfl⟩
    refine ⟨(Sub.refl H1).new hnew1, ?_⟩
    rw [hlm] at g1 g2
    refine Evf (jn3 @hlm @hw1 @hB) ?_
    refine CallD.use ((delete_fl_ok (l.map encF) (okEs_fl l) _ _ (b + 1) ver cap (kL p l) (kL p l + 1) T (Nat.lt_succ_self _) (upd_same _ _ _) g3 (by rw [hlm]; exact g1) (by rw [hlm]; exact g2) (Nat.lt_succ_self _) (by rw [hlm]; omega) (by rw [hlm]; omega)).arg_eq (by rw [hlm])) body_77 ?_
    rintro _ _ ⟨ver', cap', T', k1, k2, k3, rfl, rfl⟩
    have hdr : (l.map encF).take (kL p l) ++ (l.map encF).drop (kL p l + 1) = (delL p l).map encF := by
      rw [hdel, List.map_append, List.map_take, List.map_drop]
    rw [hdr, List.length_map] at k1 k2
    rw [hdr, List.length_map, upd_upd]
    refine ⟨(Sub.refl H1).new hnew1, ?_⟩
    refine Evf @hB ?_
    have hdp : delP (upd H1 (b + 1) (rowB ver' ((delL p l).map encF) T')) (fun i => decide (i = b + 1)) = H1 := by
      funext i
      unfold delP
      by_cases hi : i = b + 1
      · rw [if_pos (by simpa using hi), hi, hnew1]
      · rw [if_neg (by simpa using hi), upd_ne _ _ _ _ hi]
    have cput := PutO_ok (delL p l) { f0 with name := q } (by omega) (delP (upd H1 (b + 1) (rowB ver' ((delL p l).map encF) T')) (fun i => decide (i = b + 1))) (b + 2)
    have hlm2 : ((delL p l).map encF).length = (delL p l).length := List.length_map _
    have vw := view_rowT (h := upd H1 (b + 1) (rowB ver' ((delL p l).map encF) T')) (D := fun i => decide (i = b + 1)) (id := b + 1) (ver := ver') (sz := 6) (m := (delL p l).length) (j := 0) (off := 0) (cap := cap') (by simp) (upd_same _ _ _) (okEs_fl (delL p l)) (by rw [hlm2]; omega) rfl
    rw [List.drop_zero, ← hlm2, List.take_length, hlm2] at vw
    have cs := cput.seal (fun i => decide (i = b + 1)) (.cons (.one vw) (.cons (.same _) .nil))
    refine CallD.use cs body_36 ?_
    rintro _ _ ⟨v2, cap2, T2, q1, q2, q3, rfl, rfl⟩
    rw [hdp]
    refine ⟨(Sub.refl H1).new hnew2, ?_⟩
    refine Ev ?_
    refine hK _ _ _ ?_; clear hK K
    refine AWP.ret ?_
    refine Ev ?_
    exact fin _ _ _ v2 cap2 T2 (putR (delL p l) { f0 with name := q }).1 (b + 2) (putR (delL p l) { f0 with name := q }).2 (by exact Er) (by exact Er) (by exact Er) (Nat.le_add_right _ _) (fun id (hid : id < b) => by exact Ecf (jn2 (show ¬ id = b + 2 by omega) (hO id hid))) (by rw [hmv]) q1 q2 q3
  · refine Rg (fun E K hE hK => ?_)
    refine Us (find_ok l p hl _ _) body_73 ?_
    refine Evf (jn2 @hfr @hhas) ?_
    refine hK _ _ _ ?_; clear hE hK K E
    refine Rg (fun E K hE hK => ?_)
    refine Us (find_ok l q hl _ _) body_73 ?_
    refine Evf (jn2 @hfr2 @hhq) ?_
    refine hK _ _ _ ?_; clear hE hK K E
    refine AWP.seq ?_
    refine AWP.block ?_
    refine Rk ?_
    refine Bf ?_
    refine Rk ?_
    refine Bf ?_
    have hd : (p = q) = True := eq_true hpq
    refine Rkf (jn2 @mkS_list @hd) ?_
    refine Bf ?_
    refine AWP.skip ?_
    refine Ev ?_
    refine Rgf (jn3 @hlm @hkn @hge) (fun E K hE hK => ?_)
    refine ⟨by omega, ?_⟩
    refine hK _ _ _ ?_; clear hE hK K E
    refine Rk ?_
    obtain ⟨H1, hH1⟩ : ∃ H1, upd h b ⟨0, [.p (.v (.string (mkS q))), .p (.v (.float .f64 f0.rank)), .p (.v (.int .u32 f0.sum)), .p (.v (.int .i64 f0.blk)), .p (.v (.int .i64 f0.frm)), .p (.v (.int .i64 f0.len))]⟩ = H1 := ⟨_, rfl⟩
    have hB : H1 b = some ⟨0, [.p (.v (.string (mkS q))), .p (.v (.float .f64 f0.rank)), .p (.v (.int .u32 f0.sum)), .p (.v (.int .i64 f0.blk)), .p (.v (.int .i64 f0.frm)), .p (.v (.int .i64 f0.len))]⟩ := by rw [← hH1]; exact upd_same _ _ _
    have hO : ∀ id, id < b → H1 id = h id := by rw [← hH1]; exact Ou
    rw [hH1]
    refine AWP.known (fun hnew => ?_)
    have hnew1 : H1 (b + 1) = none := hnew _ (Nat.le_refl _)
    have hnew2 : H1 (b + 2) = none := hnew _ (Nat.le_succ _)
    refine AWP.seqRegD [] [] [] mixed (by kernel_rfl) (by kernel_rfl) (fun K hK => .inl ?_) (by kernel_rfl); simp -implicitDefEqProofs only [go_sem, ↓reduceIte, Nat.reduceEqDiff, Nat.reduceAdd, Nat.reduceLT, Nat.reduceLeDiff, reduceCtorEq, Int.toNat_natCast, hw1, hB]
    refine CallD.use (clone_fl_ok (l.map encF) (okEs_fl l) _ _ (by rw [hlm]; omega)) body_75 ?_
    rintro _ _ ⟨ver, cap, T, g1, g2, g3, rfl, rfl⟩
    refine ⟨(Sub.refl H1).new hnew1, ?_⟩
    rw [hlm] at g1 g2
    refine Evf (jn3 @hlm @hw1 @hB) ?_
    refine CallD.use ((delete_fl_ok (l.map encF) (okEs_fl l) _ _ (b + 1) ver cap (kL p l) (kL p l + 1) T (Nat.lt_succ_self _) (upd_same _ _ _) g3 (by rw [hlm]; exact g1) (by rw [hlm]; exact g2) (Nat.lt_succ_self _) (by rw [hlm]; omega) (by rw [hlm]; omega)).arg_eq (by rw [hlm])) body_77 ?_
    rintro _ _ ⟨ver', cap', T', k1, k2, k3, rfl, rfl⟩
    have hdr : (l.map encF).take (kL p l) ++ (l.map encF).drop (kL p l + 1) = (delL p l).map encF := by
      rw [hdel, List.map_append, List.map_take, List.map_drop]
    rw [hdr, List.length_map] at k1 k2
    rw [hdr, List.length_map, upd_upd]
    refine ⟨(Sub.refl H1).new hnew1, ?_⟩
    refine Evf @hB ?_
    have hdp : delP (upd H1 (b + 1) (rowB ver' ((delL p l).map encF) T')) (fun i => decide (i = b + 1)) = H1 := by
      funext i
      unfold delP
      by_cases hi : i = b + 1
      · rw [if_pos (by simpa using hi), hi, hnew1]
      · rw [if_neg (by simpa using hi), upd_ne _ _ _ _ hi]
    have cput := PutO_ok (delL p l) { f0 with name := q } (by omega) (delP (upd H1 (b + 1) (rowB ver' ((delL p l).map encF) T')) (fun i => decide (i = b + 1))) (b + 2)
    have hlm2 : ((delL p l).map encF).length = (delL p l).length := List.length_map _
    have vw := view_rowT (h := upd H1 (b + 1) (rowB ver' ((delL p l).map encF) T')) (D := fun i => decide (i = b + 1)) (id := b + 1) (ver := ver') (sz := 6) (m := (delL p l).length) (j := 0) (off := 0) (cap := cap') (by simp) (upd_same _ _ _) (okEs_fl (delL p l)) (by rw [hlm2]; omega) rfl
    rw [List.drop_zero, ← hlm2, List.take_length, hlm2] at vw
    have cs := cput.seal (fun i => decide (i = b + 1)) (.cons (.one vw) (.cons (.same _) .nil))
    refine CallD.use cs body_36 ?_
    rintro _ _ ⟨v2, cap2, T2, q1, q2, q3, rfl, rfl⟩
    rw [hdp]
    refine ⟨(Sub.refl H1).new hnew2, ?_⟩
    refine Ev ?_
    refine hK _ _ _ ?_; clear hK K
    refine AWP.ret ?_
    refine Ev ?_
    exact fin _ _ _ v2 cap2 T2 (putR (delL p l) { f0 with name := q }).1 (b + 2) (putR (delL p l) { f0 with name := q }).2 (by exact Er) (by exact Er) (by exact Er) (Nat.le_add_right _ _) (fun id (hid : id < b) => by exact Ecf (jn2 (show ¬ id = b + 2 by omega) (hO id hid))) (by rw [hmv]) q1 q2 q3

end Go.Proofs.YtengjcdilnikhaaDoor
