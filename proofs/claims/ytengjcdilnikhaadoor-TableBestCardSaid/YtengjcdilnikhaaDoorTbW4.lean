/-
  Walks of package table: Del, Get, Few, Same (of one table with itself).
-/
import Derived.Test.YtengjcdilnikhaaDoorTbW3
import Derived.Test.YtengjcdilnikhaaDoorSlFl2
namespace Go.Proofs.YtengjcdilnikhaaDoor
set_option linter.unusedSimpArgs false
set_option linter.unusedVariables false
set_option linter.unnecessarySimpa false
open Go Am
set_option maxRecDepth 100000

theorem Del_ok (l : List Fl) (p : S) (hl : l.length ≤ 1000000) (h : Heap) (b : Nat) :
    ACalls Tryd.prog 37 [FlsV l, StrV p] h b 0 (fun r h' => r = .tup [FlsV (delR l p).1, IntV (delR l p).2] ∧ h' = h) := by
  refine ACalls.enter Tryd.func37 rfl (by simp [Tryd.ntmps37]) (fun ι w hn H => ?_)
  have hlm : (l.map encF).length = l.length := List.length_map _
  have fin : ∀ (t : Nat → AV) (hh : Heap) (n : Nat) (e : Int), t 4 = .one (.p (.v (.slice none 0 0))) → t 5 = IntV e → (∀ id, id < b → hh id = h id) → ([], e) = delR l p → Am.Ends Tryd.prog ⟨Tryd.f37.ntmps, b, ι, h, w, x0⟩ Tryd.f37 0 (fun r h' => r = .tup [FlsV (delR l p).1, IntV (delR l p).2] ∧ h' = h) ⟨t, hh, n⟩ := by
    intro t hh n e ht ht2 ho hv
    exact Ends.pure hn H ho (r0 := .tup [.one (.p (.v (.slice none 0 0))), IntV e]) (by rw [show Tryd.f37.results.toList = [.tmp 4, .tmp 5] from rfl]; exact Ecf (jn2 @ht @ht2)) (frz_tup2 (.one (frz_nil 6)) (.v _)) ⟨by rw [← hv]; rfl, rfl⟩
  have fin2 : ∀ (t : Nat → AV) (hh : Heap) (n : Nat) (m : List Fl), t 4 = FlsV m → t 5 = IntV 0 → (∀ id, id < b → hh id = h id) → (m, 0) = delR l p → Am.Ends Tryd.prog ⟨Tryd.f37.ntmps, b, ι, h, w, x0⟩ Tryd.f37 0 (fun r h' => r = .tup [FlsV (delR l p).1, IntV (delR l p).2] ∧ h' = h) ⟨t, hh, n⟩ := by
    intro t hh n m ht ht2 ho hv
    exact Ends.pure hn H ho (r0 := .tup [FlsV m, IntV 0]) (by rw [show Tryd.f37.results.toList = [.tmp 4, .tmp 5] from rfl]; exact Ecf (jn2 @ht @ht2)) (frz_tup2 (frzV.p _) (.v _)) ⟨by rw [← hv], rfl⟩
  refine Rk ?_
  by_cases hbad : checkT l ≠ 0 ∨ chkN p ≠ 0
  · have hfr : findR l p = (0, false, 1) := by unfold findR; rw [if_pos hbad]
    refine Rg (fun E K hE hK => ?_)
    refine Us (find_ok l p hl _ _) body_73 ?_
    refine Evf @hfr ?_
    refine hK _ _ _ ?_; clear hE hK K E
    refine AWP.seq ?_
    refine AWP.block ?_
    refine Rk ?_
    refine Bt ?_
    refine Rk ?_
    refine AWP.ret ?_
    refine Ev ?_
    exact fin _ _ _ 1 (by exact Er) (by exact Er) Ou (by unfold delR; rw [if_pos hbad])
  have hfr : findR l p = (kL p l, hasL p l, 0) := by unfold findR; rw [if_neg hbad]
  cases hhas : hasL p l
  · refine Rg (fun E K hE hK => ?_)
    refine Us (find_ok l p hl _ _) body_73 ?_
    refine Evf (jn2 @hfr @hhas) ?_
    refine hK _ _ _ ?_; clear hE hK K E
    refine AWP.seq ?_
    refine AWP.block ?_
    refine Rk ?_
    refine Bf ?_
    refine Rk ?_
    refine Bt ?_
    refine Rk ?_
    refine AWP.ret ?_
    refine Ev ?_
    exact fin _ _ _ 4 (by exact Er) (by exact Er) Ou (by unfold delR; rw [if_neg hbad, if_neg (by simp [hhas])])
  · obtain ⟨hk, hk2⟩ := hasL_k.1 hhas
    have hdel := delL_has hhas
    have hw1 : IntKind.i64.wrap (((kL p l : Nat) : Int) + 1) = ((kL p l + 1 : Nat) : Int) := by rw [wrap_i64 (by omega) (by omega)]; rfl
    refine Rg (fun E K hE hK => ?_)
    refine Us (find_ok l p hl _ _) body_73 ?_
    refine Evf (jn2 @hfr @hhas) ?_
    refine hK _ _ _ ?_; clear hE hK K E
    refine AWP.seq ?_
    refine AWP.block ?_
    refine Rk ?_
    refine Bf ?_
    refine Rk ?_
    refine Bf ?_
    refine AWP.skip ?_
    refine Ev ?_
    refine Rg (fun E K hE hK => ?_)
    refine CallR.use (clone_fl_ok (l.map encF) (okEs_fl l) _ _ (by rw [hlm]; omega)) body_75 ?_
    rintro _ _ ⟨ver, cap, T, g1, g2, g3, rfl, rfl⟩
    rw [hlm] at g1 g2
    refine Evf (jn2 @hlm @hw1) ?_
    refine CallR.use ((delete_fl_ok (l.map encF) (okEs_fl l) _ _ b ver cap (kL p l) (kL p l + 1) T (Nat.lt_succ_self _) (upd_same _ _ _) g3 (by rw [hlm]; exact g1) (by rw [hlm]; exact g2) (Nat.lt_succ_self _) (by rw [hlm]; omega) (by rw [hlm]; omega)).arg_eq (by rw [hlm])) body_77 ?_
    rintro _ _ ⟨ver', cap', T', k1, k2, k3, rfl, rfl⟩
    have hdr : (l.map encF).take (kL p l) ++ (l.map encF).drop (kL p l + 1) = (delL p l).map encF := by
      rw [hdel, List.map_append, List.map_take, List.map_drop]
    rw [hdr, List.length_map] at k1 k2
    rw [hdr, List.length_map, upd_upd]
    refine Ev ?_
    refine hK _ _ _ ?_; clear hE hK K E
    refine AWP.frz 4 (cap := cap') (len := (delL p l).length) (off := 0) (id := b) 6 ((delL p l).map encF) (by exact Er) (by exact Er) rfl (by rw [List.length_map]) (okEs_fl _).len (row_cells (okEs_fl _) ver' _) ?_
    refine AWP.ret ?_
    refine Ev ?_
    exact fin2 _ _ _ (delL p l) (by exact Er) (by exact Er) (fun id (hid : id < b) => by simp -implicitDefEqProofs only [go_sem, ↓reduceIte, Nat.reduceEqDiff, Nat.reduceAdd, Nat.reduceLT, Nat.reduceLeDiff, reduceCtorEq, Int.toNat_natCast, delH, show ¬ id = b by omega]) (by unfold delR; rw [if_neg hbad, if_pos hhas])

def zeroF : Fl := ⟨[], 0, 0, 0, 0, 0⟩
def getR (l : List Fl) (p : S) : Fl × Int := if checkT l ≠ 0 ∨ chkN p ≠ 0 then (zeroF, 1) else if hasL p l = true then (l.getD (kL p l) zeroF, 0) else (zeroF, 4)

theorem Get_ok (l : List Fl) (p : S) (hl : l.length ≤ 1000000) (h : Heap) (b : Nat) :
    ACalls Tryd.prog 40 [FlsV l, StrV p] h b 0 (fun r h' => r = .tup [FlV (getR l p).1, IntV (getR l p).2] ∧ h' = h) := by
  refine ACalls.enter Tryd.func40 rfl (by simp [Tryd.ntmps40]) (fun ι w hn H => ?_)
  have hlm : (l.map encF).length = l.length := List.length_map _
  have hz : (ByteArray.empty : ByteArray) = mkS [] := rfl
  have frzF : ∀ (hh : Heap) (f : Fl), frzV hh b (FlV f) (FlV f) := fun hh f => .agg rfl (by
    intro i c d hc hd
    have : c = d := Option.some.inj (hc.symm.trans hd)
    subst this
    obtain ⟨x, _, rfl⟩ := List.mem_map.1 (List.mem_of_getElem? hc)
    exact .inl ⟨rfl, rfl⟩)
  have fin : ∀ (t : Nat → AV) (hh : Heap) (n : Nat) (v : Fl × Int), t 4 = .one (.ptr b 0 0) → hh b = some ⟨0, (encF v.1).map .p⟩ → t 5 = IntV v.2 → (∀ id, id < b → hh id = h id) → v = getR l p → Am.Ends Tryd.prog ⟨Tryd.f40.ntmps, b, ι, h, w, x0⟩ Tryd.f40 0 (fun r h' => r = .tup [FlV (getR l p).1, IntV (getR l p).2] ∧ h' = h) ⟨t, hh, n⟩ := by
    intro t hh n v ht hb ht2 ho hv
    exact Ends.pure hn H ho (r0 := .tup [FlV v.1, IntV v.2]) (by rw [show Tryd.f40.results.toList = [.cell 4 60, .tmp 5] from rfl]; (first | (simp -implicitDefEqProofs only [go_sem, ↓reduceIte, Nat.reduceEqDiff, Nat.reduceAdd, Nat.reduceLT, Nat.reduceLeDiff, reduceCtorEq, Int.toNat_natCast, ht, hb, ht2, encF]; first | done | rfl) | rfl)) (frz_tup2 (frzF _ _) (.v _)) ⟨by rw [hv], rfl⟩
  refine Rk ?_
  by_cases hbad : checkT l ≠ 0 ∨ chkN p ≠ 0
  · have hfr : findR l p = (0, false, 1) := by unfold findR; rw [if_pos hbad]
    refine Rg (fun E K hE hK => ?_)
    refine Us (find_ok l p hl _ _) body_73 ?_
    refine Evf @hfr ?_
    refine hK _ _ _ ?_; clear hE hK K E
    refine AWP.seq ?_
    refine AWP.block ?_
    refine Rk ?_
    refine Bt ?_
    refine Rk ?_
    refine AWP.ret ?_
    refine Ev ?_
    exact fin _ _ _ (zeroF, 1) (by exact Er) (by exact Er) (by exact Er) Ou (by unfold getR; rw [if_pos hbad])
  have hfr : findR l p = (kL p l, hasL p l, 0) := by unfold findR; rw [if_neg hbad]
  cases hhas : hasL p l
  · refine Rg (fun E K hE hK => ?_)
    refine Us (find_ok l p hl _ _) body_73 ?_
    refine Evf (jn2 @hfr @hhas) ?_
    refine hK _ _ _ ?_; clear hE hK K E
    refine AWP.seq ?_
    refine AWP.block ?_
    refine Rk ?_
    refine Bf ?_
    refine Rk ?_
    refine Bt ?_
    refine Rk ?_
    refine AWP.ret ?_
    refine Ev ?_
    exact fin _ _ _ (zeroF, 4) (by exact Er) (by exact Er) (by exact Er) Ou (by unfold getR; rw [if_neg hbad, if_neg (by simp [hhas])])
  · obtain ⟨hk, hk2⟩ := hasL_k.1 hhas
    have hkn : ((kL p l : Nat) : Int) < l.length := by omega
    have hge := encF_getD l (kL p l) hk
    have hgd : l.getD (kL p l) zeroF = l[kL p l] := by simp [List.getD, hk]
    refine Rg (fun E K hE hK => ?_)
    refine Us (find_ok l p hl _ _) body_73 ?_
    refine Evf (jn2 @hfr @hhas) ?_
    refine hK _ _ _ ?_; clear hE hK K E
    refine AWP.seq ?_
    refine AWP.block ?_
    refine Rk ?_
    refine Bf ?_
    refine Rk ?_
    refine Bf ?_
    refine AWP.skip ?_
    refine Ev ?_
    refine Rgf (jn3 @hlm @hkn @hge) (fun E K hE hK => ?_)
    refine ⟨by omega, ?_⟩
    refine hK _ _ _ ?_; clear hE hK K E
    refine AWP.ret ?_
    exact fin _ _ _ (l[kL p l], 0) (by exact Er) (by exact Er) (by exact Er) Ou (by unfold getR; rw [if_neg hbad, if_pos hhas, hgd])

/-! ### few -/
def fewT (l : List Fl) : Bool := l.all (fun f => decide (f.name.length ≤ 200)) && (decide (l.length ≤ 30) || (decide (256 ≤ l.length) && decide (l.length ≤ 258)))
def fewTI (l : List Fl) (h : Heap) (b i : Nat) (st : St) : Prop :=
  (∀ id, id < b → st.h id = h id) ∧ st.t 0 = FlsV l ∧ st.t 5 = FlsV l ∧ st.t 6 = IntV l.length ∧ st.t 7 = IntV (i : Nat) ∧ ∀ f ∈ l.take i, f.name.length ≤ 200

theorem fewT_ok (l : List Fl) (hl : l.length ≤ 9223372036854775807) (h : Heap) (b : Nat) : ACalls Tryd.prog 41 [FlsV l] h b 0 (fun r h' => r = BoolV (fewT l) ∧ h' = h) := by
  refine ACalls.enter Tryd.func41 rfl (by simp [Tryd.ntmps41]) (fun ι w hn H => ?_)
  have hlow := H.lowCells
  have hlm : (l.map encF).length = l.length := List.length_map _
  have fin : ∀ (t : Nat → AV) (hh : Heap) (n : Nat) (v : Bool), t 2 = BoolV v → (∀ id, id < b → hh id = h id) → v = fewT l → Am.Ends Tryd.prog ⟨Tryd.f41.ntmps, b, ι, h, w, x0⟩ Tryd.f41 0 (fun r h' => r = BoolV (fewT l) ∧ h' = h) ⟨t, hh, n⟩ := by
    intro t hh n v ht ho hv
    exact Ends.pure hn H ho (r0 := BoolV v) (by rw [show Tryd.f41.results.toList = [.tmp 2] from rfl]; exact Ecf @ht) (.v _) ⟨by rw [hv], rfl⟩
  refine Rk ?_
  refine AWP.seq ?_
  refine Rkf @hlm ?_
  refine AWP.block ?_
  refine AWP.loopM 0 (fun m st => ∃ i, i ≤ l.length ∧ m = l.length - i ∧ fewTI l h b i st) l.length rfl ⟨0, Nat.zero_le _, rfl, Ou, by exact Er, by exact Er, by exact Er, by exact Er, by simp⟩ ?_
  rintro m ⟨t, hh, n⟩ ⟨i, hi, rfl, ho, e0, e5, e6, e7, hok⟩ hn1
  simp only at ho e0 e5 e6 e7 hn1
  subst hn1
  refine Rkf (jn2 @e6 @e7) ?_
  refine AWP.seq ?_
  by_cases hlt : (i : Int) < l.length
  · have hw1 : IntKind.i64.wrap ((i : Int) + 1) = ((i + 1 : Nat) : Int) := by rw [wrap_i64 (by omega) (by omega)]; rfl
    have hi2 : i < l.length := by omega
    have hge := encF_getD l i hi2
    obtain ⟨f, hf⟩ : ∃ f, l[i] = f := ⟨_, rfl⟩
    have hfm : f ∈ l := by rw [← hf]; exact List.getElem_mem hi2
    rw [hf] at hge
    have hsz := mkS_size f.name
    refine Btf @hlt ?_
    refine AWP.skip ?_
    refine Ev ?_
    refine AWP.seq ?_
    refine AWP.block ?_
    refine Rgf (jn5 @e5 @e7 @hlm @hlt @hge) (fun E K hE hK => ?_)
    refine ⟨by omega, ?_⟩
    refine hK _ _ _ ?_; clear hE hK K E
    by_cases c1 : (200 : Int) < f.name.length
    · refine Rkf (jn2 @hsz @c1) ?_
      refine Bt ?_
      refine Rk ?_
      refine AWP.ret ?_
      refine Ev ?_
      refine fin _ _ _ false (by exact Er) (Ouf @ho) ?_
      symm
      unfold fewT
      rw [Bool.and_eq_false_iff]
      left
      rw [← Bool.not_eq_true, List.all_eq_true]
      intro hall
      have := hall f hfm
      simp only [decide_eq_true_eq] at this
      omega
    · refine Rkf (jn2 @hsz @c1) ?_
      refine Bf ?_
      refine AWP.skip ?_
      refine Ev ?_
      refine Raf (jn2 @e7 @hw1) (fun E K hE hK => ?_); refine hK _ _ _ ?_; clear hE hK K E
      exact ⟨l.length - (i + 1), by omega, i + 1, by omega, rfl, cutH_outer (Nat.le_refl _) (Ouf @ho) hlow, by exact Ecf @e0, by exact Ecf @e5, by exact Ecf @e6, by exact Er, fun x hx => by
        rw [List.take_add_one, List.getElem?_eq_getElem hi2, hf] at hx
        rcases List.mem_append.1 hx with hx | hx
        · exact hok x hx
        · simp at hx; subst hx; omega⟩
  · refine Bff @hlt ?_
    refine AWP.exit ?_
    refine Ev ?_
    have hil : i = l.length := by omega
    subst hil
    rw [List.take_length] at hok
    have hall : l.all (fun f => decide (f.name.length ≤ 200)) = true := by rw [List.all_eq_true]; intro x hx; simpa using hok x hx
    have hfw : fewT l = (decide (l.length ≤ 30) || (decide (256 ≤ l.length) && decide (l.length ≤ 258))) := by unfold fewT; rw [hall, Bool.true_and]
    by_cases c1 : (l.length : Int) ≤ 30
    · refine Rkf (jn3 @e0 @hlm @c1) ?_
      refine AWP.ret ?_
      exact fin _ _ _ true (by exact Er) ho (by rw [hfw, decide_eq_true (by omega)]; rfl)
    by_cases c2 : (256 : Int) ≤ l.length
    · refine Rkf (jn4 @e0 @hlm @c1 @c2) ?_
      refine AWP.ret ?_
      refine fin _ _ _ (decide ((l.length : Int) ≤ 258)) (by exact Er) ho ?_
      rw [hfw, decide_eq_false (show ¬ l.length ≤ 30 by omega), decide_eq_true (show 256 ≤ l.length by omega), Bool.false_or, Bool.true_and]
      exact decide_eq_decide.2 (by omega)
    · refine Rkf (jn4 @e0 @hlm @c1 @c2) ?_
      refine AWP.ret ?_
      exact fin _ _ _ false (by exact Er) ho (by rw [hfw, decide_eq_false (show ¬ l.length ≤ 30 by omega), decide_eq_false (show ¬ 256 ≤ l.length by omega)]; rfl)

/-- an own table, and why not -/
def ownT (P : List Fl × Int) (h : Heap) (b : Nat) (r : AV) (h' : Heap) : Prop :=
  ∃ ver cap T, P.1.length ≤ cap ∧ cap * 6 = P.1.length * 6 + T.length ∧ lowCs 0 T = true ∧ r = .tup [.one (.win b ver 0 P.1.length cap), IntV P.2] ∧ h' = upd h b (rowB ver (P.1.map encF) T)

theorem ownT_frz {P : Program} {f : FuncId} {args : List AV} {h : Heap} {b : Nat} {X : List Fl × Int} (c : ACalls P f args h b 1 (ownT X h b)) : ACalls P f args h b 0 (fun r h' => r = .tup [FlsV X.1, IntV X.2] ∧ h' = h) := by
  intro ι w vs hb hh ha
  refine (ACalls.freeze c ?_) ι w vs hb hh ha
  rintro r h' ⟨ver, cap, T, h1, h2, h3, rfl, rfl⟩
  refine ⟨.tup [FlsV X.1, IntV X.2], frz_tup2 (.one ?_) (.v _), ⟨rfl, ?_⟩, fun id hid blk e c hc => ?_⟩
  · have := frz_row0 (b := b) (id := b) (ver := ver) (cap := cap) (T := T) (h := upd h b (rowB ver (X.1.map encF) T)) (Nat.le_refl _) (upd_same _ _ _) (okEs_fl X.1)
    rw [List.length_map] at this
    exact this
  · exact lowH_eq (fun id hid => by rw [upd_ne _ _ _ _ (by omega)]) hb
  · rw [upd_ne _ _ _ _ (by omega)] at e
    exact hh.lowCells id blk e c hc

end Go.Proofs.YtengjcdilnikhaaDoor
