/-
  Stable sorts of files: two parts of an own row exchanged; Stable sorts of files: two neighbours of an own row exchanged (rotate); Stable sorts of files: the comparator of Best; Stable sorts of files: insertion; Stable sorts of files: two parts that rise are merged (symMerge); Stable sorts of files: blocks sorted, and merged (stable, SortStableFunc).
-/
import Derived.Test.YtengjcdilnikhaaDoorSoPure
import Derived.Test.YtengjcdilnikhaaDoorTbW3
import Derived.Test.YtengjcdilnikhaaDoorTbW7
namespace Go.Proofs.YtengjcdilnikhaaDoor
set_option linter.unusedSimpArgs false
set_option linter.unusedVariables false
set_option linter.unnecessarySimpa false
open Go Am So
set_option maxRecDepth 100000

theorem row_part6 (l : List Fl) (T : List Cell) (i : Nat) (hi : i < l.length) : List.take 6 (List.drop (i * 6) (List.map Cell.p (l.map encF).flatten ++ T)) = (encF l[i]).map .p :=
  row_part T (okEs_fl l) (i := i) (e := encF l[i]) (by simp [hi])
theorem row_lenF (l : List Fl) (T : List Cell) : (List.map Cell.p (l.map encF).flatten ++ T).length = l.length * 6 + T.length := by rw [List.length_append, List.length_map, okEs_len (okEs_fl _), List.length_map]

theorem sub_at {h : Heap} {id ver : Nat} {L : List Cell} (L2 : List Cell) (hb : h id = some ⟨ver, L⟩) : Am.Sub (ers h id) (upd h id ⟨ver, L2⟩) := (sub_ers _ _).upd (fun c e => by
  rw [ers_lit, if_pos rfl, hb] at e
  injection e with e
  subst e; exact ⟨rfl, rfl⟩)

theorem cutH_outS {b x : Nat} {h h0 : Heap} (hl : ∀ id blk, h0 id = some blk → ∀ c ∈ blk.cells, lowC b c = true) (e : h x = h0 x) (hx : x < b) : cutH (b + 0) h x = h0 x := by
  cases h1 : h0 x with
  | none => unfold cutH; rw [if_pos (by omega), e, h1]; rfl
  | some blk => exact cutH_same (by omega) (e.trans h1) (lowCs_of fun c hc => hl x blk h1 c hc)
theorem frz_tup0 (h : Heap) (b : Nat) : frzV h b (.tup []) (.tup []) := .tup rfl (fun i c d hc => by simp at hc)
theorem upd_all {b id : Nat} {hh h : Heap} {blk : Blk} (hb : hh id = some blk) (ho : ∀ k, k < b → k ≠ id → hh k = h k) : ∀ k, k < b → hh k = upd h id blk k := fun k hk => by
  by_cases e : k = id
  · subst e; rw [upd_same, hb]
  · rw [upd_ne _ _ _ _ e]; exact ho k hk e

def swI (p x q y s : List Fl) (c : AV) (h : Heap) (b id ver cap : Nat) (T : List Cell) (i : Nat) (st : St) : Prop :=
  st.h id = some (rowB ver ((mix p x q y s i).map encF) T) ∧ (∀ k, k < b → k ≠ id → st.h k = h k) ∧ st.t 0 = .one (.win id ver 0 (p.length + x.length + q.length + y.length + s.length) cap) ∧ st.t 1 = IntV p.length ∧ st.t 2 = IntV (p.length + x.length + q.length : Nat) ∧ st.t 3 = IntV x.length ∧ st.t 10 = IntV (i : Nat)

theorem swapRange_ok (p x q y s : List Fl) (hxy : x.length = y.length) (g : FuncId) (h : Heap) (b id ver cap : Nat) (T : List Cell) (hid : id < b) (hn : p.length + x.length + q.length + y.length + s.length ≤ 1000000)
    (hb : h id = some (rowB ver ((p ++ (x ++ (q ++ (y ++ s)))).map encF) T)) (hT : lowCs b T = true) :
    ACalls Tryd.prog 152 [.one (.win id ver 0 (p.length + x.length + q.length + y.length + s.length) cap), IntV p.length, IntV (p.length + x.length + q.length : Nat), IntV x.length, .one (.clo (.func g) [] [])] h b 0
      (fun r h' => r = .tup [] ∧ h' = upd h id (rowB ver ((p ++ (y ++ (q ++ (x ++ s)))).map encF) T)) := by
  refine ACalls.enter Tryd.func152 rfl (by simp [Tryd.ntmps152]) (fun ι w hnn H => ?_)
  have hlow := H.lowCells
  refine Rk ?_
  refine AWP.block ?_
  refine AWP.loopM 0 (fun m st => ∃ i, i ≤ x.length ∧ m = x.length - i ∧ swI p x q y s (.one (.clo (.func g) [] [])) h b id ver cap T i st) x.length rfl ⟨0, Nat.zero_le _, rfl, by rw [mix_zero]; exact hb, fun _ _ _ => rfl, by exact Er, by exact Er, by exact Er, by exact Er, by exact Er⟩ ?_
  rintro m ⟨t, hh, n⟩ ⟨i, hi, rfl, hb1, ho, e0, e1, e2, e3, e10⟩ hn1
  simp only at hb1 ho e0 e1 e2 e3 e10 hn1
  subst hn1
  refine AWP.seq ?_
  refine Rkf (jn2 @e3 @e10) ?_
  by_cases hlt : (i : Int) < x.length
  · have hw1 : IntKind.i64.wrap ((i : Int) + 1) = ((i + 1 : Nat) : Int) := by rw [wrap_i64 (by omega) (by omega)]; rfl
    have hwa : IntKind.i64.wrap ((p.length : Int) + (i : Int)) = ((p.length + i : Nat) : Int) := by rw [wrap_i64 (by omega) (by omega)]; rfl
    have hwb : IntKind.i64.wrap (((p.length + x.length + q.length : Nat) : Int) + (i : Int)) = ((p.length + x.length + q.length + i : Nat) : Int) := by rw [wrap_i64 (by omega) (by omega)]; rfl
    have hml := mix_len p x q y s hxy hi
    have hst := mix_step p x q y s hxy (i := i) (by omega)
    obtain ⟨d, hd⟩ : ∃ d, d = mix p x q y s i := ⟨_, rfl⟩
    rw [← hd] at hml hst hb1
    obtain ⟨ia, hia⟩ : ∃ ia, ia = p.length + i := ⟨_, rfl⟩
    obtain ⟨ib, hib⟩ : ∃ ib, ib = p.length + x.length + q.length + i := ⟨_, rfl⟩
    rw [← hia] at hwa hst
    rw [← hib] at hwb hst
    have la : ia < d.length := by omega
    have lb : ib < d.length := by omega
    have hpa := row_part6 d T ia la
    have hpb := row_part6 d T ib lb
    have hs1 := row_setF d T ia la d[ib]
    have hs2 := row_setF (d.set ia d[ib]) T ib (by simpa using lb) d[ia]
    have hb' : hh id = some ⟨ver, List.map Cell.p (d.map encF).flatten ++ T⟩ := hb1
    have hlL := row_lenF d T
    have hlL2 := row_lenF (d.set ia d[ib]) T
    rw [List.length_set] at hlL2
    generalize List.map Cell.p ((d.set ia d[ib]).map encF).flatten ++ T = L2 at hs1 hs2 hlL2
    generalize List.map Cell.p (d.map encF).flatten ++ T = L at hpa hpb hs1 hb' hlL
    refine Btf @hlt ?_
    refine AWP.skip ?_
    refine Ev ?_
    refine AWP.seq ?_
    refine AWP.block ?_
    refine AWP.rgD [29, 35] [] [id] mixed (by kernel_rfl) (by kernel_rfl) (fun K hK => ?_) (by kernel_rfl); simp -implicitDefEqProofs only [go_sem, ↓reduceIte, Nat.reduceEqDiff, Nat.reduceAdd, Nat.reduceLT, Nat.reduceLeDiff, reduceCtorEq, Int.toNat_natCast, e0, e1, e2, e10, hwa, hwb, hb', hpa, hpb, hs1, hs2]
    refine ⟨⟨by omega, by omega⟩, by omega, sub_ers _ _, ⟨by omega, by omega⟩, by omega, sub_ers _ _, ⟨by omega, by omega⟩, by omega, sub_at _ hb', ⟨by omega, by omega⟩, by omega, sub_at _ hb', ?_⟩
    refine hK _ _ _ ?_; clear hK K
    refine Ev ?_
    refine Raf (jn2 @e10 @hw1) (fun E K hE hK => ?_); refine hK _ _ _ ?_; clear hE hK K E
    have hsw : (d.set ia d[ib]).set ib d[ia] = mix p x q y s (i + 1) := by
      rw [← hst]; unfold swp
      rw [List.getElem?_eq_getElem la, List.getElem?_eq_getElem lb]
    rw [hsw]
    refine ⟨x.length - (i + 1), by omega, i + 1, by omega, rfl, cutH_same (by omega) (by exact Er) (lowCs_app (lowCs_p _ _) hT), fun k hk hne => ?_, by refine Evf @e0 ?_; exact cutV_win hid, by exact Ecf @e1, by exact Ecf @e2, by exact Ecf @e3, by exact Er⟩
    exact cutH_outS hlow (by refine Evf @hne ?_; exact ho k hk hne) hk
  · refine Bff @hlt ?_
    refine AWP.exit ?_
    refine Ev ?_
    have hil : i = x.length := by omega
    subst hil
    rw [mix_all _ _ _ _ _ hxy] at hb1
    refine Ends.turn hnn H hid (upd_all hb1 ho) (lowCs_app (lowCs_p _ _) hT) (r0 := .tup []) rfl (frz_tup0 _ _) ⟨rfl, rfl⟩
end Go.Proofs.YtengjcdilnikhaaDoor

namespace Go.Proofs.YtengjcdilnikhaaDoor
set_option linter.unusedSimpArgs false
set_option linter.unusedVariables false
set_option linter.unnecessarySimpa false
open Go Am So
set_option maxRecDepth 100000

def roI (T0 : List Fl) (mm : Nat) (c : AV) (h : Heap) (b id ver cap : Nat) (T : List Cell) (i j : Nat) (st : St) : Prop :=
  ∃ p u v s : List Fl, u.length = i ∧ v.length = j ∧ p.length + i = mm ∧ p ++ (v ++ (u ++ s)) = T0 ∧ st.h id = some (rowB ver ((p ++ (u ++ (v ++ s))).map encF) T) ∧ (∀ k, k < b → k ≠ id → st.h k = h k) ∧
    st.t 0 = .one (.win id ver 0 T0.length cap) ∧ st.t 2 = IntV mm ∧ st.t 4 = c ∧ st.t 10 = IntV (i : Nat) ∧ st.t 11 = IntV (j : Nat)

theorem rotate_ok (p u v s : List Fl) (hu : u ≠ []) (hv : v ≠ []) (g : FuncId) (h : Heap) (b id ver cap : Nat) (T : List Cell) (hid : id < b) (hn : p.length + u.length + v.length + s.length ≤ 1000000)
    (hb : h id = some (rowB ver ((p ++ (u ++ (v ++ s))).map encF) T)) (hT : lowCs b T = true) :
    ACalls Tryd.prog 145 [.one (.win id ver 0 (p.length + u.length + v.length + s.length) cap), IntV p.length, IntV (p.length + u.length : Nat), IntV (p.length + u.length + v.length : Nat), .one (.clo (.func g) [] [])] h b 0
      (fun r h' => r = .tup [] ∧ h' = upd h id (rowB ver ((p ++ (v ++ (u ++ s))).map encF) T)) := by
  refine ACalls.enter Tryd.func145 rfl (by simp [Tryd.ntmps145]) (fun ι w hnn H => ?_)
  have hlow := H.lowCells
  have hul := List.length_pos_iff.2 hu
  have hvl := List.length_pos_iff.2 hv
  have k1 : IntKind.i64.wrap (((p.length + u.length : Nat) : Int) - (p.length : Int)) = ((u.length : Nat) : Int) := by rw [wrap_i64 (by omega) (by omega)]; omega
  have k2 : IntKind.i64.wrap (((p.length + u.length + v.length : Nat) : Int) - ((p.length + u.length : Nat) : Int)) = ((v.length : Nat) : Int) := by rw [wrap_i64 (by omega) (by omega)]; omega
  refine Rkf @k1 ?_
  refine Rkf @k2 ?_
  have hTl : (p ++ (v ++ (u ++ s))).length = p.length + u.length + v.length + s.length := by simp only [List.length_append]; omega
  obtain ⟨T0, hT0⟩ : ∃ T0, T0 = p ++ (v ++ (u ++ s)) := ⟨_, rfl⟩
  obtain ⟨mm, hmm⟩ : ∃ mm, mm = p.length + u.length := ⟨_, rfl⟩
  rw [← hT0] at hTl ⊢
  have hTn : T0.length ≤ 1000000 := by omega
  refine AWP.seq ?_
  refine AWP.block ?_
  refine AWP.loopM 0 (fun z st => ∃ i j, 0 < i ∧ 0 < j ∧ z = i + j ∧ roI T0 mm (.one (.clo (.func g) [] [])) h b id ver cap T i j st) (u.length + v.length) rfl ⟨u.length, v.length, hul, hvl, rfl, p, u, v, s, rfl, rfl, hmm.symm, hT0.symm, hb, fun _ _ _ => rfl, by rw [hTl]; exact Er, by rw [hmm]; exact Er, by exact Er, by exact Er, by exact Er⟩ ?_
  clear hb hTl hT0 hmm hul hvl k1 k2 hn
  rintro z ⟨t, hh, n⟩ ⟨i, j, hi, hj, rfl, p, u, v, s, lu, lv, lp, hT0, hb, ho, e0, e2, e4, e10, e11⟩ hn1
  simp only at hb ho e0 e2 e4 e10 e11 hn1
  subst hn1
  have hTl : (p ++ (v ++ (u ++ s))).length = p.length + u.length + v.length + s.length := by simp only [List.length_append]; omega
  rw [hT0] at hTl
  have k1 : IntKind.i64.wrap ((mm : Int) - (i : Int)) = ((p.length : Nat) : Int) := by rw [wrap_i64 (by omega) (by omega)]; omega
  by_cases hne : (i : Int) = j
  · refine AWP.seq ?_
    refine Rkf (jn3 @e10 @e11 @hne) ?_
    refine Bf ?_
    refine AWP.exit ?_
    refine Ev ?_
    have a1 : ((mm : Nat) : Int) = ((p.length + u.length + ([] : List Fl).length : Nat) : Int) := by simp only [List.length_nil]; omega
    have a2 : ((i : Nat) : Int) = ((u.length : Nat) : Int) := by omega
    have a4 : T0.length = p.length + u.length + ([] : List Fl).length + v.length + s.length := by simp only [List.length_nil]; omega
    refine Raf (jn6 @e0 @e2 @e4 @e10 @e11 @k1) (fun E K hE hK => ?_)
    rw [a1, a2, a4]
    refine CallR.use (swapRange_ok p u [] v s (by omega) g hh _ id ver cap T (show id < b + 0 by omega) (by simp only [List.length_nil]; omega) (by rw [hb]; rfl) hT) body_152 ?_
    rintro _ _ ⟨rfl, rfl⟩
    refine Ev ?_
    refine hK _ _ _ ?_; clear hE hK K E
    rw [hT0]
    refine Ends.turn hnn H hid (blk := rowB ver (T0.map encF) T) (fun k hk => ?_) (lowCs_app (lowCs_p _ _) hT) (r0 := .tup []) rfl (frz_tup0 _ _) ⟨rfl, rfl⟩
    by_cases e : k = id
    · subst e; rw [upd_same]; exact Er
    · rw [upd_ne _ _ _ _ e]; refine Evf @e ?_; exact ho k hk e
  · refine AWP.seq ?_
    refine Rkf (jn3 @e10 @e11 @hne) ?_
    refine Bt ?_
    refine AWP.skip ?_
    refine Ev ?_
    refine AWP.block ?_
    by_cases hgt : (j : Int) < i
    · refine Rkf (jn3 @e10 @e11 @hgt) ?_
      refine Bt ?_
      obtain ⟨x, q, rfl, lx⟩ : ∃ x q, u = x ++ q ∧ x.length = j := ⟨u.take j, u.drop j, (List.take_append_drop _ _).symm, by rw [List.length_take]; omega⟩
      rw [List.length_append] at lu hTl
      have a1 : ((mm : Nat) : Int) = ((p.length + x.length + q.length : Nat) : Int) := by omega
      have a2 : ((j : Nat) : Int) = ((x.length : Nat) : Int) := by omega
      have a3 : IntKind.i64.wrap ((i : Int) - (j : Int)) = ((i - j : Nat) : Int) := by rw [wrap_i64 (by omega) (by omega)]; omega
      have a4 : T0.length = p.length + x.length + q.length + v.length + s.length := by omega
      have hb' : hh id = some (rowB ver ((p ++ (x ++ (q ++ (v ++ s)))).map encF) T) := by rw [hb, List.append_assoc]
      refine AWP.seq ?_
      refine Raf (jn6 @e0 @e2 @e4 @e10 @e11 @k1) (fun E K hE hK => ?_)
      rw [a1, a2, a4]
      refine CallR.use (swapRange_ok p x q v s (by omega) g hh _ id ver cap T (show id < b + 0 by omega) (by omega) hb' hT) body_152 ?_
      rintro _ _ ⟨rfl, rfl⟩
      refine Ev ?_
      refine hK _ _ _ ?_; clear hE hK K E
      refine Ev ?_
      refine Raf (jn3 @e10 @e11 @a3) (fun E K hE hK => ?_); refine hK _ _ _ ?_; clear hE hK K E
      refine ⟨(i - j) + j, by omega, i - j, j, by omega, hj, rfl, p ++ v, q, x, s, by omega, lx, by rw [List.length_append]; omega, by rw [← hT0]; simp only [List.append_assoc], cutH_same (by omega) (by simp -implicitDefEqProofs only [go_sem, ↓reduceIte, Nat.reduceEqDiff, Nat.reduceAdd, Nat.reduceLT, Nat.reduceLeDiff, reduceCtorEq, Int.toNat_natCast, List.append_assoc]) (lowCs_app (lowCs_p _ _) hT), fun k hk hne => cutH_outS hlow (by refine Evf @hne ?_; exact ho k hk hne) hk, by refine Evf @e0 ?_; exact cutV_win hid, by exact Ecf @e2, by exact Ecf @e4, by exact Er, by exact Ecf @e11⟩
    · refine Rkf (jn3 @e10 @e11 @hgt) ?_
      refine Bf ?_
      obtain ⟨q, y, rfl, ly⟩ : ∃ q y, v = q ++ y ∧ y.length = i := ⟨v.take (j - i), v.drop (j - i), (List.take_append_drop _ _).symm, by rw [List.length_drop]; omega⟩
      rw [List.length_append] at lv hTl
      have a1 : IntKind.i64.wrap ((mm : Int) + (j : Int)) = ((mm + j : Nat) : Int) := by rw [wrap_i64 (by omega) (by omega)]; rfl
      have a5 : IntKind.i64.wrap (((mm + j : Nat) : Int) - (i : Int)) = ((p.length + u.length + q.length : Nat) : Int) := by rw [wrap_i64 (by omega) (by omega)]; omega
      have a2 : ((i : Nat) : Int) = ((u.length : Nat) : Int) := by omega
      have a3 : IntKind.i64.wrap ((j : Int) - (i : Int)) = ((j - i : Nat) : Int) := by rw [wrap_i64 (by omega) (by omega)]; omega
      have a4 : T0.length = p.length + u.length + q.length + y.length + s.length := by omega
      have hb' : hh id = some (rowB ver ((p ++ (u ++ (q ++ (y ++ s)))).map encF) T) := by rw [hb, List.append_assoc]
      refine AWP.seq ?_
      refine Raf (jn2 @e0 (jn7 @e2 @e4 @e10 @e11 @k1 @a1 @a5)) (fun E K hE hK => ?_)
      rw [a2, a4]
      refine CallR.use (swapRange_ok p u q y s (by omega) g hh _ id ver cap T (show id < b + 0 by omega) (by omega) hb' hT) body_152 ?_
      rintro _ _ ⟨rfl, rfl⟩
      refine Ev ?_
      refine hK _ _ _ ?_; clear hE hK K E
      refine Ev ?_
      refine Raf (jn3 @e10 @e11 @a3) (fun E K hE hK => ?_); refine hK _ _ _ ?_; clear hE hK K E
      refine ⟨i + (j - i), by omega, i, j - i, hi, by omega, rfl, p, y, q, u ++ s, ly, by omega, lp, by rw [← hT0]; simp only [List.append_assoc], cutH_same (by omega) (by exact Er) (lowCs_app (lowCs_p _ _) hT), fun k hk hne => cutH_outS hlow (by refine Evf @hne ?_; exact ho k hk hne) hk, by refine Evf @e0 ?_; exact cutV_win hid, by exact Ecf @e2, by exact Ecf @e4, by exact Ecf @e10, by exact Er⟩
end Go.Proofs.YtengjcdilnikhaaDoor

namespace Go.Proofs.YtengjcdilnikhaaDoor
set_option linter.unusedSimpArgs false
set_option linter.unusedVariables false
set_option linter.unnecessarySimpa false
open Go Am So
set_option maxRecDepth 100000

def cmpZ (x y : Int) : Int := if x < y then -1 else if y < x then 1 else 0

theorem isNaNU_ok (x : Int) (h : Heap) (b : Nat) : ACalls Tryd.prog 118 [.one (.p (.v (.int .u64 x)))] h b 0 (fun r h' => r = BoolV false ∧ h' = h) := by
  refine ACalls.enter Tryd.func118 rfl (by simp [Tryd.ntmps118]) (fun ι w hn H => ?_)
  refine Rk ?_
  refine Rk ?_
  refine AWP.ret ?_
  exact Ends.pure hn H (fun _ _ => rfl) (r0 := BoolV false) (by rw [show Tryd.f118.results.toList = [.tmp 2] from rfl]; exact Er) (.v _) ⟨rfl, rfl⟩

theorem cmpU_ok (x y : Int) (h : Heap) (b : Nat) : ACalls Tryd.prog 93 [.one (.p (.v (.int .u64 x))), .one (.p (.v (.int .u64 y)))] h b 0 (fun r h' => r = IntV (cmpZ x y) ∧ h' = h) := by
  refine ACalls.enter Tryd.func93 rfl (by simp [Tryd.ntmps93]) (fun ι w hn H => ?_)
  have fin : ∀ (t : Nat → AV) (n : Nat) (v : Int), t 4 = IntV v → v = cmpZ x y → Am.Ends Tryd.prog ⟨Tryd.f93.ntmps, b, ι, h, w, x0⟩ Tryd.f93 0 (fun r h' => r = IntV (cmpZ x y) ∧ h' = h) ⟨t, h, n⟩ := by
    intro t n v ht hv
    exact Ends.pure hn H (fun _ _ => rfl) (r0 := IntV v) (by rw [show Tryd.f93.results.toList = [.tmp 4] from rfl]; exact Ecf @ht) (.v _) ⟨by rw [hv], rfl⟩
  refine Rk ?_
  refine Rg (fun E K hE hK => ?_)
  refine Us (isNaNU_ok x _ _) body_118 ?_
  refine hK _ _ _ ?_; clear hE hK K E
  refine Rg (fun E K hE hK => ?_)
  refine Us (isNaNU_ok y _ _) body_118 ?_
  refine hK _ _ _ ?_; clear hE hK K E
  refine AWP.seq ?_
  refine Rk ?_
  refine Bs ?_
  refine AWP.seq ?_
  refine Rk ?_
  refine Bs ?_
  refine AWP.seq ?_
  by_cases h1 : x < y
  · refine Rkf @h1 ?_
    refine Bt ?_
    refine Rk ?_
    refine AWP.ret ?_
    refine Ev ?_
    exact fin _ _ (-1) (by exact Er) (by unfold cmpZ; rw [if_pos h1])
  · refine Rkf @h1 ?_
    refine Bs ?_
    refine AWP.seq ?_
    by_cases h2 : y < x
    · refine Rkf @h2 ?_
      refine Bt ?_
      refine Rk ?_
      refine AWP.ret ?_
      refine Ev ?_
      exact fin _ _ 1 (by exact Er) (by unfold cmpZ; rw [if_neg h1, if_pos h2])
    · refine Rkf @h2 ?_
      refine Bs ?_
      refine Rk ?_
      refine AWP.ret ?_
      exact fin _ _ 0 (by exact Er) (by unfold cmpZ; rw [if_neg h1, if_neg h2])

theorem rankCmp_ok (x y : Nat) (h : Heap) (b : Nat) : ACalls Tryd.prog 53 [F64V x, F64V y] h b 0 (fun r h' => r = IntV (cmpZ (keyR x) (keyR y)) ∧ h' = h) := by
  refine ACalls.enter Tryd.func53 rfl (by simp [Tryd.ntmps53]) (fun ι w hn H => ?_)
  refine Rk ?_
  refine Rg (fun E K hE hK => ?_)
  refine Us (rKeyR_ok x _ _) body_94 ?_
  refine Us (rKeyR_ok y _ _) body_94 ?_
  refine Us (cmpU_ok (keyR x) (keyR y) _ _) body_93 ?_
  refine hK _ _ _ ?_; clear hE hK K E
  refine AWP.ret ?_
  exact Ends.pure hn H (fun _ _ => rfl) (r0 := IntV (cmpZ (keyR x) (keyR y))) (by rw [show Tryd.f53.results.toList = [.tmp 4] from rfl]; exact Er) (.v _) ⟨rfl, rfl⟩

theorem best1_ok (f g : Fl) (h : Heap) (b : Nat) : ACalls Tryd.prog 92 [FlV f, FlV g] h b 0 (fun r h' => r = IntV (cmpZ (keyR g.rank) (keyR f.rank)) ∧ h' = h) := by
  refine ACalls.enter Tryd.func92 rfl (by simp [Tryd.ntmps92]) (fun ι w hn H => ?_)
  refine Rk ?_
  refine Rg (fun E K hE hK => ?_)
  refine Us (rankCmp_ok g.rank f.rank _ _) body_53 ?_
  refine hK _ _ _ ?_; clear hE hK K E
  refine AWP.ret ?_
  exact Ends.pure hn H Ou (r0 := IntV (cmpZ (keyR g.rank) (keyR f.rank))) (by rw [show Tryd.f92.results.toList = [.tmp 4] from rfl]; exact Er) (.v _) ⟨rfl, rfl⟩
end Go.Proofs.YtengjcdilnikhaaDoor

namespace Go.Proofs.YtengjcdilnikhaaDoor
set_option linter.unusedSimpArgs false
set_option linter.unusedVariables false
set_option linter.unnecessarySimpa false
open Go Am So
set_option maxRecDepth 100000

/-- what a comparator must be: of two files it tells which key is less -/
def CmpOk (g : FuncId) (k : Fl → Int) : Prop := bodyB Tryd.prog g = true ∧ ∀ (x y : Fl), ∃ z : Int, (z < 0 ↔ k x < k y) ∧ ∀ (h : Heap) (b : Nat), ACalls Tryd.prog g [FlV x, FlV y] h b 0 (fun r h' => r = IntV z ∧ h' = h)

theorem cmpZ_neg (a b : Int) : cmpZ a b < 0 ↔ a < b := by
  unfold cmpZ
  split
  · omega
  · split <;> omega
theorem best1_cmp : CmpOk 92 (fun f => - keyR f.rank) := ⟨body_92, fun x y => ⟨cmpZ (keyR y.rank) (keyR x.rank), by show _ ↔ - keyR x.rank < - keyR y.rank; rw [cmpZ_neg]; omega, best1_ok x y⟩⟩

theorem swp_at (u v : List Fl) (x y : Fl) {i : Nat} (hi : i = u.length + 1) : ((u ++ x :: y :: v).set i x).set (i - 1) y = u ++ y :: x :: v := by
  subst hi
  rw [Nat.add_sub_cancel, List.set_append_right _ _ (by omega), Nat.add_sub_cancel_left, List.set_append_right _ _ (Nat.le_refl _), Nat.sub_self]
  rfl

def inJ (p y x' s : List Fl) (e : Fl) (k : Fl → Int) (g : FuncId) (h : Heap) (b id ver L cap : Nat) (T : List Cell) (i z j : Nat) (st : St) : Prop :=
  ∃ y1 y2 : List Fl, y = y1 ++ y2 ∧ j = p.length + y1.length ∧ (∀ w ∈ y2, k e < k w) ∧ st.h id = some (rowB ver ((p ++ (y1 ++ (e :: (y2 ++ (x' ++ s))))).map encF) T) ∧ (∀ m, m < b → m ≠ id → st.h m = h m) ∧
    st.t 0 = .one (.win id ver 0 L cap) ∧ st.t 1 = IntV p.length ∧ st.t 2 = IntV (z : Nat) ∧ st.t 3 = .one (.clo (.func g) [] []) ∧ st.t 8 = IntV (i : Nat) ∧ st.t 9 = IntV (j : Nat)

def inI (p x s : List Fl) (k : Fl → Int) (g : FuncId) (h : Heap) (b id ver L cap : Nat) (T : List Cell) (z i : Nat) (st : St) : Prop :=
  ∃ y x' : List Fl, p.length + y.length = i ∧ Srt k y ∧ FEq k x (y ++ x') ∧ (y ++ x').length = x.length ∧ st.h id = some (rowB ver ((p ++ (y ++ (x' ++ s))).map encF) T) ∧ (∀ m, m < b → m ≠ id → st.h m = h m) ∧
    st.t 0 = .one (.win id ver 0 L cap) ∧ st.t 1 = IntV p.length ∧ st.t 2 = IntV (z : Nat) ∧ st.t 3 = .one (.clo (.func g) [] []) ∧ st.t 8 = IntV (i : Nat)

theorem insertion_ok {g : FuncId} {k : Fl → Int} (hg : CmpOk g k) (p x s : List Fl) (h : Heap) (b id ver L cap z : Nat) (T : List Cell) (hid : id < b) (hL : L = p.length + x.length + s.length) (hz : z = p.length + x.length) (hn : L ≤ 1000000)
    (hb : h id = some (rowB ver ((p ++ (x ++ s)).map encF) T)) (hT : lowCs b T = true) :
    ACalls Tryd.prog 134 [.one (.win id ver 0 L cap), IntV p.length, IntV (z : Nat), .one (.clo (.func g) [] [])] h b 0
      (fun r h' => r = .tup [] ∧ ∃ q, Srt k q ∧ FEq k x q ∧ q.length = x.length ∧ h' = upd h id (rowB ver ((p ++ (q ++ s)).map encF) T)) := by
  refine ACalls.enter Tryd.func134 rfl (by simp [Tryd.ntmps134]) (fun ι w hnn H => ?_)
  have hlow := H.lowCells
  have hw1 : IntKind.i64.wrap ((p.length : Int) + 1) = ((p.length + 1 : Nat) : Int) := by rw [wrap_i64 (by omega) (by omega)]; rfl
  refine Rkf @hw1 ?_
  refine AWP.block ?_
  have fin : ∀ (t : Nat → AV) (hh : Heap) (m : Nat) (q : List Fl), Srt k q → FEq k x q → q.length = x.length → hh id = some (rowB ver ((p ++ (q ++ s)).map encF) T) → (∀ m, m < b → m ≠ id → hh m = h m) →
      Am.Ends Tryd.prog ⟨Tryd.f134.ntmps, b, ι, h, w, x0⟩ Tryd.f134 0 (fun r h' => r = .tup [] ∧ ∃ q, Srt k q ∧ FEq k x q ∧ q.length = x.length ∧ h' = upd h id (rowB ver ((p ++ (q ++ s)).map encF) T)) ⟨t, hh, m⟩ := by
    intro t hh m q h1 h2 h3 h4 ho
    exact Ends.turn hnn H hid (upd_all h4 ho) (lowCs_app (lowCs_p _ _) hT) (r0 := .tup []) rfl (frz_tup0 _ _) ⟨rfl, q, h1, h2, h3, rfl⟩
  by_cases hx : x = []
  · subst hx
    refine AWP.loopM 0 (fun m st => m = 0 ∧ st.h id = some (rowB ver ((p ++ ([] ++ s)).map encF) T) ∧ (∀ m, m < b → m ≠ id → st.h m = h m) ∧ st.t 2 = IntV (z : Nat) ∧ st.t 8 = IntV (p.length + 1 : Nat)) 0 rfl ⟨rfl, hb, fun _ _ _ => rfl, by exact Er, by exact Er⟩ ?_
    rintro m ⟨t, hh, n⟩ ⟨rfl, h4, ho, e2, e8⟩ hn1
    simp only at h4 ho e2 e8 hn1
    subst hn1
    have hlt : ¬ ((p.length + 1 : Nat) : Int) < (z : Nat) := by rw [hz]; simp; omega
    refine AWP.seq ?_
    refine Rkf (jn3 @e2 @e8 @hlt) ?_
    refine Bf ?_
    refine AWP.exit ?_
    refine Ev ?_
    exact fin _ _ _ [] List.Pairwise.nil (FEq.refl _ _) rfl h4 ho
  obtain ⟨x0', xr, rfl⟩ : ∃ x0' xr, x = x0' :: xr := by cases x with | nil => exact absurd rfl hx | cons a l => exact ⟨a, l, rfl⟩
  refine AWP.loopM 0 (fun m st => ∃ i, i ≤ z ∧ m = z - i ∧ inI p (x0' :: xr) s k g h b id ver L cap T z i st) (z - (p.length + 1)) rfl ⟨p.length + 1, by rw [hz, List.length_cons]; omega, rfl, [x0'], xr, rfl, List.pairwise_singleton _ _, FEq.refl _ _, rfl, hb, fun _ _ _ => rfl, by exact Er, by exact Er, by exact Er, by exact Er, by exact Er⟩ ?_
  rintro m ⟨t, hh, n⟩ ⟨i, hi, rfl, y, x', ly, h1, h2, h3, hb1, ho, e0, e1, e2, e3, e8⟩ hn1
  simp only at hb1 ho e0 e1 e2 e3 e8 hn1
  subst hn1
  have h3' := h3
  rw [List.length_append] at h3'
  refine AWP.seq ?_
  refine Rkf (jn2 @e2 @e8) ?_
  by_cases hlt : (i : Int) < z
  · refine Btf @hlt ?_
    refine AWP.skip ?_
    refine Ev ?_
    obtain ⟨e, x'', rfl⟩ : ∃ e x'', x' = e :: x'' := by
      cases x' with
      | nil => simp only [List.length_nil] at h3'; omega
      | cons a l => exact ⟨a, l, rfl⟩
    rw [List.length_cons] at h3'
    refine AWP.seq ?_
    refine AWP.block ?_
    refine Rkf @e8 ?_
    refine AWP.block ?_
    refine AWP.loopM 0 (fun m st => ∃ j, m = j - p.length ∧ inJ p y x'' s e k g h b id ver L cap T i z j st) y.length rfl ⟨i, by omega, y, [], by simp, ly.symm, by simp, hb1, ho, by exact Erf @e0, by exact Erf @e1, by exact Erf @e2, by exact Erf @e3, by exact Erf @e8, by exact Er⟩ ?_
    rintro m ⟨t, hh, n⟩ ⟨j, rfl, y1, y2, rfl, hj, hy2, hb1, ho, e0, e1, e2, e3, e8, e9⟩ hn1
    simp only at hb1 ho e0 e1 e2 e3 e8 e9 hn1
    subst hn1
    have hw2 : IntKind.i64.wrap ((i : Int) + 1) = ((i + 1 : Nat) : Int) := by rw [wrap_i64 (by omega) (by omega)]; rfl
    refine AWP.seq ?_
    have srt : (∀ w ∈ y1, k w ≤ k e) → Srt k (y1 ++ e :: y2) ∧ FEq k (x0' :: xr) ((y1 ++ e :: y2) ++ x'') := by
      intro hle
      obtain ⟨g1, g2⟩ := let_in2 (y := e) h1 y1.length (by rw [List.take_left]; exact hle) (by rw [List.drop_left]; exact hy2)
      rw [List.take_left, List.drop_left] at g1 g2
      refine ⟨g1, h2.trans ?_⟩
      have := g2.app (FEq.refl k x'')
      rwa [List.append_assoc (y1 ++ y2) [e] x'', List.singleton_append] at this
    have hlen : ((y1 ++ e :: y2) ++ x'').length = xr.length + 1 := by simp only [List.length_append, List.length_cons] at h3 ⊢; omega
    have hlp : p.length + (y1 ++ e :: y2).length = i + 1 := by simp only [List.length_append, List.length_cons] at ly ⊢; omega
    have hb2 : hh id = some (rowB ver ((p ++ ((y1 ++ e :: y2) ++ (x'' ++ s))).map encF) T) := by rw [hb1]; simp only [List.append_assoc, List.cons_append]
    have cuts : cutH (b + 0) hh id = some (rowB ver ((p ++ ((y1 ++ e :: y2) ++ (x'' ++ s))).map encF) T) := cutH_same (by omega) hb2 (lowCs_app (lowCs_p _ _) hT)
    have cutO : ∀ m, m < b → m ≠ id → cutH (b + 0) hh m = h m := fun m hm hne => cutH_outS hlow (ho m hm hne) hm
    rcases List.eq_nil_or_concat y1 with rfl | ⟨y1', v, rfl⟩
    · have hgt : ¬ ((p.length : Nat) : Int) < (j : Int) := by simp only [List.length_nil] at hj; omega
      refine AWP.seqRegDG [] [] [] mixed (drawF_ok (by kernel_rfl)) (by kernel_rfl) (fun K hK => ?_); simp -implicitDefEqProofs only [go_sem, ↓reduceIte, Nat.reduceEqDiff, Nat.reduceAdd, Nat.reduceLT, Nat.reduceLeDiff, reduceCtorEq, Int.toNat_natCast, e0, e1, e3, e9, hgt]
      repeat (first | (refine Gdf 21 @hgt ?_) | (refine ⟨by omega, ?_⟩))
      refine hK _ _ _ ?_; clear hK K
      refine Bf ?_
      refine AWP.exit ?_
      refine Ev ?_
      refine Raf (jn2 @e8 @hw2) (fun E K hE hK => ?_); refine hK _ _ _ ?_; clear hE hK K E
      obtain ⟨s1, s2⟩ := srt (fun w hw => by simp at hw)
      exact ⟨z - (i + 1), by omega, i + 1, by omega, rfl, _, x'', hlp, s1, s2, hlen, cuts, cutO, by refine Evf @e0 ?_; exact cutV_win hid, by exact Ecf @e1, by exact Ecf @e2, by exact Ecf @e3, by exact Er⟩
    · simp only [List.concat_eq_append] at *
      rw [List.length_append, List.length_singleton] at hj
      have q1 := hlen
      have q2 := hL
      simp only [List.length_append, List.length_cons, List.length_nil] at q1 q2
      have hgt : ((p.length : Nat) : Int) < (j : Int) := by omega
      have hwm : IntKind.i64.wrap ((j : Int) - 1) = ((j - 1 : Nat) : Int) := by rw [wrap_i64 (by omega) (by omega)]; omega
      obtain ⟨d, hd⟩ : ∃ d, d = p ++ ((y1' ++ [v]) ++ (e :: (y2 ++ (x'' ++ s)))) := ⟨_, rfl⟩
      have hd' : d = (p ++ y1') ++ v :: e :: (y2 ++ (x'' ++ s)) := by rw [hd]; simp only [List.append_assoc, List.cons_append, List.nil_append]
      have hdl : d.length = L := by rw [hd']; simp only [List.length_append, List.length_cons, List.length_nil] at h3 hL ⊢; omega
      have hjl : (p ++ y1').length + 1 = j := by rw [List.length_append]; omega
      have hd1 : d[j]? = some e := by rw [hd', ← hjl, List.getElem?_append_right (by omega), Nat.add_sub_cancel_left]; rfl
      have hd2 : d[j - 1]? = some v := by rw [hd', ← hjl, Nat.add_sub_cancel, List.getElem?_append_right (by omega), Nat.sub_self]; rfl
      have hsw := swp_at (p ++ y1') (y2 ++ (x'' ++ s)) v e hjl.symm
      rw [← hd'] at hsw
      rw [← hd] at hb1
      have la : j < d.length := by omega
      have lb : j - 1 < d.length := by omega
      rw [List.getElem?_eq_getElem la, Option.some.injEq] at hd1
      rw [List.getElem?_eq_getElem lb, Option.some.injEq] at hd2
      have hpa := row_part6 d T j la
      have hpb := row_part6 d T (j - 1) lb
      rw [hd1] at hpa
      rw [hd2] at hpb
      have hs1 := row_setF d T j la v
      have hs2 := row_setF (d.set j v) T (j - 1) (by simpa using lb) e
      rw [hsw] at hs2
      have hb' : hh id = some ⟨ver, List.map Cell.p (d.map encF).flatten ++ T⟩ := hb1
      have hlL := row_lenF d T
      have hlL2 := row_lenF (d.set j v) T
      rw [List.length_set] at hlL2
      generalize List.map Cell.p ((d.set j v).map encF).flatten ++ T = L2 at hs1 hs2 hlL2
      generalize List.map Cell.p (d.map encF).flatten ++ T = L1 at hpa hpb hs1 hb' hlL
      obtain ⟨zz, hzz, hcall⟩ := hg.2 e v
      have hjlt : (j : Int) < (L : Nat) := by omega
      have hjlt2 : ((j - 1 : Nat) : Int) < (L : Nat) := by omega
      refine AWP.seqRegDG [] [] [] mixed (drawF_ok (by kernel_rfl)) (by kernel_rfl) (fun K hK => ?_); simp -implicitDefEqProofs only [go_sem, ↓reduceIte, Nat.reduceEqDiff, Nat.reduceAdd, Nat.reduceLT, Nat.reduceLeDiff, reduceCtorEq, Int.toNat_natCast, e0, e1, e3, e9, hgt, hwm, hb', hpa, hpb, hjlt, hjlt2]
      repeat (first | (refine Gdf 21 (jn5 @e0 @e1 @e3 @e9 (jn7 @hgt @hwm @hb' @hpa @hpb @hjlt @hjlt2)) ?_) | (refine ⟨by omega, ?_⟩))
      refine Ud (hcall _ _) hg.1 ?_
      by_cases hneg : k e < k v
      · have hz1 : zz < 0 := hzz.2 hneg
        repeat (first | (refine Gdf 21 @hz1 ?_) | (refine ⟨by omega, ?_⟩))
        refine hK _ _ _ ?_; clear hK K
        refine Bt ?_
        refine AWP.skip ?_
        refine Ev ?_
        refine AWP.seq ?_
        refine AWP.block ?_
        refine AWP.rgD [46, 50] [] [id] mixed (by kernel_rfl) (by kernel_rfl) (fun K hK => ?_) (by kernel_rfl); simp -implicitDefEqProofs only [go_sem, ↓reduceIte, Nat.reduceEqDiff, Nat.reduceAdd, Nat.reduceLT, Nat.reduceLeDiff, reduceCtorEq, Int.toNat_natCast, e0, e1, e3, e9, hwm, hb', hpa, hpb, hs1, hs2]
        refine ⟨⟨by omega, by omega⟩, by omega, sub_ers _ _, ⟨by omega, by omega⟩, by omega, sub_ers _ _, ⟨by omega, by omega⟩, by omega, sub_at _ hb', ⟨by omega, by omega⟩, by omega, sub_at _ hb', ?_⟩
        refine hK _ _ _ ?_; clear hK K
        refine Ev ?_
        refine Raf (jn2 @e9 @hwm) (fun E K hE hK => ?_); refine hK _ _ _ ?_; clear hE hK K E
        exact ⟨(j - 1) - p.length, by omega, j - 1, rfl, y1', v :: y2, by simp, by omega, fun w hw => by
          rcases List.mem_cons.1 hw with rfl | hw
          · exact hneg
          · exact hy2 w hw, cutH_same (by omega) (by (first | (simp -implicitDefEqProofs only [go_sem, ↓reduceIte, Nat.reduceEqDiff, Nat.reduceAdd, Nat.reduceLT, Nat.reduceLeDiff, reduceCtorEq, Int.toNat_natCast, List.append_assoc, List.cons_append]; first | done | rfl) | rfl)) (lowCs_app (lowCs_p _ _) hT), fun m hm hne => cutH_outS hlow (by refine Evf @hne ?_; exact ho m hm hne) hm, by refine Evf @e0 ?_; exact cutV_win hid, by exact Ecf @e1, by exact Ecf @e2, by exact Ecf @e3, by exact Ecf @e8, by exact Er⟩
      · have hz1 : ¬ zz < 0 := fun q => hneg (hzz.1 q)
        repeat (first | (refine Gdf 21 @hz1 ?_) | (refine ⟨by omega, ?_⟩))
        refine hK _ _ _ ?_; clear hK K
        refine Bf ?_
        refine AWP.exit ?_
        refine Ev ?_
        refine Raf (jn2 @e8 @hw2) (fun E K hE hK => ?_); refine hK _ _ _ ?_; clear hE hK K E
        obtain ⟨s1, s2⟩ := srt (fun w hw => by
          rcases List.mem_append.1 hw with hw | hw
          · have := (List.pairwise_append.1 h1).1
            have := (List.pairwise_append.1 this).2.2 w hw v (by simp)
            omega
          · rw [List.mem_singleton.1 hw]; omega)
        exact ⟨z - (i + 1), by omega, i + 1, by omega, rfl, _, x'', hlp, s1, s2, hlen, cuts, cutO, by refine Evf @e0 ?_; exact cutV_win hid, by exact Ecf @e1, by exact Ecf @e2, by exact Ecf @e3, by exact Er⟩
  · refine Bff @hlt ?_
    refine AWP.exit ?_
    refine Ev ?_
    have hx' : x' = [] := List.eq_nil_of_length_eq_zero (by omega)
    subst hx'
    rw [List.append_nil] at h2 h3
    exact fin _ _ _ y h1 h2 h3 hb1 ho
end Go.Proofs.YtengjcdilnikhaaDoor

namespace Go.Proofs.YtengjcdilnikhaaDoor
set_option linter.unusedSimpArgs false
set_option linter.unusedVariables false
set_option linter.unnecessarySimpa false
open Go Am So
set_option maxRecDepth 100000

theorem mid_facts {i j : Nat} (h : i + j ≤ 4000000) : IntKind.i64.wrap ((i : Int) + j) = ((i + j : Nat) : Int) ∧ IntKind.u64.wrap ((i + j : Nat) : Int) = ((i + j : Nat) : Int) ∧ Int.fdiv ((i + j : Nat) : Int) (2 ^ min (Int.toNat 1) 64) = (((i + j) / 2 : Nat) : Int) ∧ IntKind.i64.wrap (((i + j) / 2 : Nat) : Int) = (((i + j) / 2 : Nat) : Int) := by
  refine ⟨by rw [wrap_i64 (by omega) (by omega)]; omega, IntWalk.u64_in _ ⟨by omega, by omega⟩, ?_, wrap_i64 (by omega) (by omega)⟩
  rw [show ((2 : Int) ^ min (Int.toNat 1) 64) = 2 from rfl, Int.fdiv_eq_ediv_of_nonneg _ (by decide)]; omega

theorem row_atF {d : List Fl} (T : List Cell) {c : Nat} {e : Fl} (h : d[c]? = some e) : List.take 6 (List.drop (c * 6) (List.map Cell.p (d.map encF).flatten ++ T)) = (encF e).map .p := by
  obtain ⟨h1, h2⟩ := List.getElem?_eq_some_iff.1 h
  rw [row_part6 d T c h1, h2]

theorem swp_up (u v : List Fl) (x y : Fl) {i : Nat} (hi : i = u.length) : ((u ++ x :: y :: v).set i y).set (i + 1) x = u ++ y :: x :: v := by
  subst hi
  rw [List.set_append_right _ _ (Nat.le_refl _), Nat.sub_self, List.set_append_right _ _ (by omega), Nat.add_sub_cancel_left]
  rfl

/-- the slots of a merge -/
def smS (g : FuncId) (h : Heap) (b id ver L cap a m z : Nat) (T : List Cell) (d : List Fl) (st : St) : Prop :=
  st.h id = some (rowB ver (d.map encF) T) ∧ (∀ k, k < b → k ≠ id → st.h k = h k) ∧ st.t 0 = .one (.win id ver 0 L cap) ∧ st.t 1 = IntV (a : Nat) ∧ st.t 2 = IntV (m : Nat) ∧ st.t 3 = IntV (z : Nat) ∧ st.t 4 = .one (.clo (.func g) [] [])

def SymR (k : Fl → Int) (p x s : List Fl) (h : Heap) (id ver : Nat) (T : List Cell) (r : AV) (h' : Heap) : Prop :=
  r = .tup [] ∧ ∃ q, Srt k q ∧ FEq k x q ∧ q.length = x.length ∧ h' = upd h id (rowB ver ((p ++ (q ++ s)).map encF) T)

def SymOK (g : FuncId) (k : Fl → Int) (n : Nat) : Prop :=
  ∀ (p u v s : List Fl) (h : Heap) (b id ver L cap a m z : Nat) (T : List Cell), u.length + v.length = n → u ≠ [] → v ≠ [] → Srt k u → Srt k v → id < b → L = p.length + u.length + v.length + s.length → a = p.length → m = p.length + u.length → z = p.length + u.length + v.length → L ≤ 1000000 →
    h id = some (rowB ver ((p ++ (u ++ (v ++ s))).map encF) T) → lowCs b T = true →
    ACalls Tryd.prog 135 [.one (.win id ver 0 L cap), IntV (a : Nat), IntV (m : Nat), IntV (z : Nat), .one (.clo (.func g) [] [])] h b 0 (SymR k p (u ++ v) s h id ver T)

set_option maxHeartbeats 2000000 in
theorem symMerge_ok {g : FuncId} {k : Fl → Int} (hg : CmpOk g k) : ∀ n, SymOK g k n := by
  intro n
  induction n using Nat.strongRecOn with
  | _ n ih =>
  intro p u v s h b id ver L cap a m z T hn0 hu0 hv0 hsu hsv hid hL ha hm hz hn hb hT
  refine ACalls.enter Tryd.func135 rfl (by simp [Tryd.ntmps135]) (fun ι w hnn H => ?_)
  have hlow := H.lowCells
  have hul := List.length_pos_iff.2 hu0
  have hvl := List.length_pos_iff.2 hv0
  have fin : ∀ (t : Nat → AV) (hh : Heap) (nn : Nat) (q : List Fl), Srt k q → FEq k (u ++ v) q → q.length = (u ++ v).length → hh id = some (rowB ver ((p ++ (q ++ s)).map encF) T) → (∀ m, m < b → m ≠ id → hh m = h m) →
      Am.Ends Tryd.prog ⟨Tryd.f135.ntmps, b, ι, h, w, x0⟩ Tryd.f135 0 (SymR k p (u ++ v) s h id ver T) ⟨t, hh, nn⟩ := by
    intro t hh nn q h1 h2 h3 h4 ho
    exact Ends.turn hnn H hid (upd_all h4 ho) (lowCs_app (lowCs_p _ _) hT) (r0 := .tup []) rfl (frz_tup0 _ _) ⟨rfl, q, h1, h2, h3, rfl⟩
  obtain ⟨d, hd⟩ : ∃ d, d = p ++ (u ++ (v ++ s)) := ⟨_, rfl⟩
  have hdl : d.length = L := by rw [hd]; simp only [List.length_append]; omega
  have hdu : ∀ c, a ≤ c → c < m → d[c]? = u[c - a]? := fun c h1 h2 => by rw [hd, ha, List.getElem?_append_right (by omega), List.getElem?_append_left (by omega)]
  have hdv : ∀ c, m ≤ c → c < z → d[c]? = v[c - m]? := fun c h1 h2 => by rw [hd, hm, List.getElem?_append_right (by omega), List.getElem?_append_right (by omega), List.getElem?_append_left (by omega), show c - p.length - u.length = c - (p.length + u.length) by omega]
  rw [← hd] at hb
  have w1 : IntKind.i64.wrap ((m : Int) - (a : Int)) = ((u.length : Nat) : Int) := by rw [wrap_i64 (by omega) (by omega)]; omega
  refine AWP.seq ?_
  by_cases hu1 : ((u.length : Nat) : Int) = 1
  · refine Rkf (jn2 @w1 @hu1) ?_
    refine Bt ?_
    refine Rk ?_
    refine Rk ?_
    obtain ⟨e, rfl⟩ : ∃ e, u = [e] := List.length_eq_one_iff.1 (by omega)
    refine AWP.seq ?_
    refine AWP.block ?_
    refine AWP.loopM 0 (fun y st => ∃ i j, m ≤ i ∧ i ≤ j ∧ j ≤ z ∧ y = j - i ∧ (∀ c f, m + c < i → v[c]? = some f → k f < k e) ∧ (∀ c f, j ≤ m + c → v[c]? = some f → k e ≤ k f) ∧ st.t 10 = IntV (i : Nat) ∧ st.t 11 = IntV (j : Nat) ∧ smS g h b id ver L cap a m z T d st) (z - m) rfl
      ⟨m, z, Nat.le_refl _, by omega, Nat.le_refl _, rfl, fun c f hc => by omega, fun c f hc hf => by have := (List.getElem?_eq_some_iff.1 hf).1; simp only [List.length_singleton] at hz hm; omega, by exact Er, by exact Er, hb, fun _ _ _ => rfl, by exact Er, by exact Er, by exact Er, by exact Er, by exact Er⟩ ?_
    rintro y ⟨t, hh, n⟩ ⟨i, j, h1, h2, h3, rfl, q1, q2, e10, e11, hb1, ho, e0, e1, e2, e3, e4⟩ hn1
    simp only at hb1 ho e0 e1 e2 e3 e4 e10 e11 hn1
    subst hn1
    refine AWP.seq ?_
    refine Rkf (jn2 @e10 @e11) ?_
    by_cases hlt : (i : Int) < j
    · refine Btf @hlt ?_
      refine AWP.skip ?_
      refine Ev ?_
      refine AWP.block ?_
      obtain ⟨m1, m2, m3, m4⟩ := mid_facts (i := i) (j := j) (by omega)
      obtain ⟨c, hc⟩ : ∃ c, (i + j) / 2 = c := ⟨_, rfl⟩
      have hci : i ≤ c ∧ c < j := by omega
      rw [hc] at m3 m4
      have h10 : ¬ (1 : Int) < 0 := by decide
      refine Rkf (jn7 @e10 @e11 @m1 @m2 @m3 @m4 @h10) ?_
      obtain ⟨f, hf⟩ : ∃ f, v[c - m]? = some f := ⟨v[c - m]'(by simp only [List.length_singleton] at hz hm; omega), List.getElem?_eq_getElem _⟩
      have hda : d[a]? = some e := by rw [hdu a (Nat.le_refl _) (by simp only [List.length_singleton] at hm; omega), Nat.sub_self]; rfl
      have hdc : d[c]? = some f := by rw [hdv c (by omega) (by omega), hf]
      have hpa := row_atF T hda
      have hpb := row_atF T hdc
      have hlL := row_lenF d T
      have hb' : hh id = some ⟨ver, List.map Cell.p (d.map encF).flatten ++ T⟩ := hb1
      generalize List.map Cell.p (d.map encF).flatten ++ T = L1 at hpa hpb hb' hlL
      obtain ⟨zz, hzz, hcall⟩ := hg.2 f e
      refine AWP.seqRegD [] [] [] mixed (by kernel_rfl) (by kernel_rfl) (fun K hK => .inl ?_) (by kernel_rfl); simp -implicitDefEqProofs only [go_sem, ↓reduceIte, Nat.reduceEqDiff, Nat.reduceAdd, Nat.reduceLT, Nat.reduceLeDiff, reduceCtorEq, Int.toNat_natCast, e0, e1, e4, hb', hpa, hpb]
      refine ⟨⟨by omega, by omega⟩, by omega, ⟨by omega, by omega⟩, by omega, ?_⟩
      refine Ud (hcall _ _) hg.1 ?_
      refine hK _ _ _ ?_; clear hK K
      have hcut : cutH (b + 0) hh id = some (rowB ver (d.map encF) T) := cutH_same (by omega) hb1 (lowCs_app (lowCs_p _ _) hT)
      have hcutO : ∀ m, m < b → m ≠ id → cutH (b + 0) hh m = h m := fun m hm hne => cutH_outS hlow (ho m hm hne) hm
      have hsg : ∀ (x y : Nat) (f1 f2 : Fl), x ≤ y → v[x]? = some f1 → v[y]? = some f2 → k f1 ≤ k f2 := fun x y f1 f2 hxy g1 g2 => by
        obtain ⟨g3, g4⟩ := List.getElem?_eq_some_iff.1 g1
        obtain ⟨g5, g6⟩ := List.getElem?_eq_some_iff.1 g2
        rw [← g4, ← g6]; exact hsv.get hxy g5
      by_cases hneg : k f < k e
      · have hz1 : zz < 0 := hzz.2 hneg
        have hw2 : IntKind.i64.wrap ((c : Int) + 1) = ((c + 1 : Nat) : Int) := by rw [wrap_i64 (by omega) (by omega)]; rfl
        refine Btf @hz1 ?_
        refine Raf @hw2 (fun E K hE hK => ?_); refine hK _ _ _ ?_; clear hE hK K E
        exact ⟨j - (c + 1), by omega, c + 1, j, by omega, by omega, h3, rfl, fun x f' hx hf' => by have := hsg x (c - m) f' f (by omega) hf' hf; omega, q2, by exact Er, by exact Ecf @e11, hcut, hcutO, by refine Evf @e0 ?_; exact cutV_win hid, by exact Ecf @e1, by exact Ecf @e2, by exact Ecf @e3, by exact Ecf @e4⟩
      · have hz1 : ¬ zz < 0 := fun q => hneg (hzz.1 q)
        refine Bff @hz1 ?_
        refine Ra (fun E K hE hK => ?_); refine hK _ _ _ ?_; clear hE hK K E
        exact ⟨c - i, by omega, i, c, by omega, by omega, by omega, rfl, q1, fun x f' hx hf' => by have := hsg (c - m) x f f' (by omega) hf hf'; omega, by exact Ecf @e10, by exact Er, hcut, hcutO, by refine Evf @e0 ?_; exact cutV_win hid, by exact Ecf @e1, by exact Ecf @e2, by exact Ecf @e3, by exact Ecf @e4⟩
    · refine Bff @hlt ?_
      refine AWP.exit ?_
      refine Ev ?_
      have hij : i = j := by omega
      subst hij
      obtain ⟨n1, rfl⟩ : ∃ n1, i = m + n1 := ⟨i - m, by omega⟩
      have hn1 : n1 ≤ v.length := by simp only [List.length_singleton] at hm hz; omega
      obtain ⟨s1, s2⟩ := let_in (x := e) hsv n1 (fun y hy => by
        obtain ⟨x, hx, rfl⟩ := List.mem_iff_getElem.1 hy
        rw [List.length_take] at hx
        rw [List.getElem_take]
        exact q1 x _ (by omega) (List.getElem?_eq_getElem (by omega))) (fun y hy => by
        obtain ⟨x, hx, rfl⟩ := List.mem_iff_getElem.1 hy
        rw [List.length_drop] at hx
        rw [List.getElem_drop]
        exact q2 (n1 + x) _ (by omega) (List.getElem?_eq_getElem (by omega)))
      obtain ⟨vt, hvt⟩ : ∃ vt, v.take n1 = vt := ⟨_, rfl⟩
      obtain ⟨vd, hvd⟩ : ∃ vd, v.drop n1 = vd := ⟨_, rfl⟩
      have hvv : v = vt ++ vd := by rw [← hvt, ← hvd, List.take_append_drop]
      have hvtl : vt.length = n1 := by rw [← hvt, List.length_take]; omega
      rw [hvt, hvd] at s1 s2
      refine AWP.seq ?_
      refine Rkf @e1 ?_
      refine AWP.block ?_
      refine AWP.loopM 0 (fun y st => ∃ w1 w2, vt = w1 ++ w2 ∧ y = w2.length ∧ st.t 10 = IntV (m + n1 : Nat) ∧ st.t 13 = IntV (a + w1.length : Nat) ∧ smS g h b id ver L cap a m z T (p ++ (w1 ++ (e :: (w2 ++ (vd ++ s))))) st) vt.length rfl
        ⟨[], vt, rfl, rfl, by exact Ecf @e10, by exact Erf @e1, by refine Ev ?_; rw [hb1, hd, hvv]; simp only [List.append_assoc, List.nil_append, List.singleton_append], by refine Ev ?_; exact ho, by exact Ecf @e0, by exact Ecf @e1, by exact Ecf @e2, by exact Ecf @e3, by exact Ecf @e4⟩ ?_
      rintro y ⟨t, hh, n⟩ ⟨w1, w2, hw, rfl, e10, e13, hb1, ho, e0, e1, e2, e3, e4⟩ hn2
      simp only at hb1 ho e0 e1 e2 e3 e4 e10 e13 hn2
      subst hn2
      have hwl : w1.length + w2.length = n1 := by rw [← hvtl, hw, List.length_append]
      have hma : m = a + 1 := by simp only [List.length_singleton] at hm; omega
      have k1 : IntKind.i64.wrap (((m + n1 : Nat) : Int) - 1) = ((a + n1 : Nat) : Int) := by rw [wrap_i64 (by omega) (by omega)]; omega
      refine AWP.seq ?_
      refine Rkf (jn3 @e10 @e13 @k1) ?_
      by_cases hlt : ((a + w1.length : Nat) : Int) < ((a + n1 : Nat) : Int)
      · obtain ⟨f, w2', rfl⟩ : ∃ f w2', w2 = f :: w2' := by
          cases w2 with
          | nil => simp only [List.length_nil] at hwl; omega
          | cons f w2' => exact ⟨f, w2', rfl⟩
        obtain ⟨c, hc⟩ : ∃ c, a + w1.length = c := ⟨_, rfl⟩
        rw [hc] at hlt e13
        have hcl : c = (p ++ w1).length := by rw [List.length_append]; omega
        obtain ⟨D, hD⟩ : ∃ D, D = (p ++ w1) ++ e :: f :: (w2' ++ (vd ++ s)) := ⟨_, rfl⟩
        have hsw := swp_up (p ++ w1) (w2' ++ (vd ++ s)) e f hcl
        have hDl : D.length = L := by
          have := congrArg List.length hvv
          rw [hD]; simp only [List.length_append, List.length_cons, List.length_nil] at this hL hwl ⊢; omega
        have hda : D[c]? = some e := by rw [hD, hcl, List.getElem?_append_right (Nat.le_refl _), Nat.sub_self]; rfl
        have hdc : D[c + 1]? = some f := by rw [hD, hcl, List.getElem?_append_right (by omega), Nat.add_sub_cancel_left]; rfl
        rw [show p ++ (w1 ++ (e :: (f :: w2' ++ (vd ++ s)))) = D by rw [hD]; simp only [List.append_assoc, List.cons_append]] at hb1
        rw [← hD] at hsw
        have lc : c + 1 < D.length := (List.getElem?_eq_some_iff.1 hdc).1
        have hw1 : IntKind.i64.wrap ((c : Int) + 1) = ((c + 1 : Nat) : Int) := by rw [wrap_i64 (by omega) (by omega)]; rfl
        have hpa := row_atF T hda
        have hpb := row_atF T hdc
        have hs1 := row_setF D T c (by omega) f
        have hs2 := row_setF (D.set c f) T (c + 1) (by simpa using lc) e
        rw [hsw] at hs2
        have hb' : hh id = some ⟨ver, List.map Cell.p (D.map encF).flatten ++ T⟩ := hb1
        have hlL := row_lenF D T
        have hlL2 := row_lenF (D.set c f) T
        rw [List.length_set] at hlL2
        generalize List.map Cell.p ((D.set c f).map encF).flatten ++ T = L2 at hs1 hs2 hlL2
        generalize List.map Cell.p (D.map encF).flatten ++ T = L1 at hpa hpb hs1 hb' hlL
        rw [hc]
        refine Btf @hlt ?_
        refine AWP.skip ?_
        refine Ev ?_
        refine AWP.seq ?_
        refine AWP.block ?_
        refine AWP.rgD [70, 74] [] [id] mixed (by kernel_rfl) (by kernel_rfl) (fun K hK => ?_) (by kernel_rfl); simp -implicitDefEqProofs only [go_sem, ↓reduceIte, Nat.reduceEqDiff, Nat.reduceAdd, Nat.reduceLT, Nat.reduceLeDiff, reduceCtorEq, Int.toNat_natCast, e0, e13, hw1, hb', hpa, hpb, hs1, hs2]
        refine ⟨⟨by omega, by omega⟩, by omega, sub_ers _ _, ⟨by omega, by omega⟩, by omega, sub_ers _ _, ⟨by omega, by omega⟩, by omega, sub_at _ hb', ⟨by omega, by omega⟩, by omega, sub_at _ hb', ?_⟩
        refine hK _ _ _ ?_; clear hK K
        refine Ev ?_
        refine Raf (jn2 @e13 @hw1) (fun E K hE hK => ?_); refine hK _ _ _ ?_; clear hE hK K E
        exact ⟨w2'.length, by simp, w1 ++ [f], w2', by rw [List.append_assoc]; exact hw, rfl, by exact Ecf @e10, by rw [List.length_append, List.length_singleton, ← Nat.add_assoc, hc]; exact Er, cutH_same (by omega) (by (first | (simp -implicitDefEqProofs only [go_sem, ↓reduceIte, Nat.reduceEqDiff, Nat.reduceAdd, Nat.reduceLT, Nat.reduceLeDiff, reduceCtorEq, Int.toNat_natCast, List.append_assoc, List.cons_append, List.nil_append]; first | done | rfl) | rfl)) (lowCs_app (lowCs_p _ _) hT), fun m hm hne => cutH_outS hlow (by refine Evf @hne ?_; exact ho m hm hne) hm, by refine Evf @e0 ?_; exact cutV_win hid, by exact Ecf @e1, by exact Ecf @e2, by exact Ecf @e3, by exact Ecf @e4⟩
      · have hw2 : w2 = [] := List.eq_nil_of_length_eq_zero (by omega)
        subst hw2
        refine Bff @hlt ?_
        refine AWP.exit ?_
        refine Ev ?_
        refine AWP.ret ?_
        refine Ev ?_
        rw [List.append_nil] at hw
        subst hw
        exact fin _ _ _ (vt ++ e :: vd) s1 s2 (by have := congrArg List.length hvv; simp only [List.length_append, List.length_cons, List.length_nil] at this ⊢; omega) (by rw [hb1]; simp only [List.append_assoc, List.cons_append, List.nil_append]) ho
  · refine Rkf (jn2 @w1 @hu1) ?_
    refine Bs ?_
    refine AWP.seq ?_
    have w2 : IntKind.i64.wrap ((z : Int) - (m : Int)) = ((v.length : Nat) : Int) := by rw [wrap_i64 (by omega) (by omega)]; omega
    by_cases hv1 : ((v.length : Nat) : Int) = 1
    · refine Rkf (jn2 @w2 @hv1) ?_
      refine Bt ?_
      refine Rk ?_
      refine Rk ?_
      obtain ⟨e, rfl⟩ : ∃ e, v = [e] := List.length_eq_one_iff.1 (by omega)
      have hz1 : z = m + 1 := by simp only [List.length_singleton] at hz; omega
      refine AWP.seq ?_
      refine AWP.block ?_
      refine AWP.loopM 0 (fun y st => ∃ i j, a ≤ i ∧ i ≤ j ∧ j ≤ m ∧ y = j - i ∧ (∀ c f, a + c < i → u[c]? = some f → k f ≤ k e) ∧ (∀ c f, j ≤ a + c → u[c]? = some f → k e < k f) ∧ st.t 14 = IntV (i : Nat) ∧ st.t 15 = IntV (j : Nat) ∧ smS g h b id ver L cap a m z T d st) (m - a) rfl
        ⟨a, m, Nat.le_refl _, by omega, Nat.le_refl _, rfl, fun c f hc => by omega, fun c f hc hf => by have := (List.getElem?_eq_some_iff.1 hf).1; omega, by exact Er, by exact Er, hb, fun _ _ _ => rfl, by exact Er, by exact Er, by exact Er, by exact Er, by exact Er⟩ ?_
      rintro y ⟨t, hh, n⟩ ⟨i, j, h1, h2, h3, rfl, q1, q2, e10, e11, hb1, ho, e0, e1, e2, e3, e4⟩ hn1
      simp only at hb1 ho e0 e1 e2 e3 e4 e10 e11 hn1
      subst hn1
      refine AWP.seq ?_
      refine Rkf (jn2 @e10 @e11) ?_
      by_cases hlt : (i : Int) < j
      · refine Btf @hlt ?_
        refine AWP.skip ?_
        refine Ev ?_
        refine AWP.block ?_
        obtain ⟨m1, m2, m3, m4⟩ := mid_facts (i := i) (j := j) (by omega)
        obtain ⟨c, hc⟩ : ∃ c, (i + j) / 2 = c := ⟨_, rfl⟩
        have hci : i ≤ c ∧ c < j := by omega
        rw [hc] at m3 m4
        have h10 : ¬ (1 : Int) < 0 := by decide
        refine Rkf (jn7 @e10 @e11 @m1 @m2 @m3 @m4 @h10) ?_
        obtain ⟨f, hf⟩ : ∃ f, u[c - a]? = some f := ⟨u[c - a]'(by omega), List.getElem?_eq_getElem _⟩
        have hda : d[m]? = some e := by rw [hdv m (Nat.le_refl _) (by omega), Nat.sub_self]; rfl
        have hdc : d[c]? = some f := by rw [hdu c (by omega) (by omega), hf]
        have hpa := row_atF T hda
        have hpb := row_atF T hdc
        have hlL := row_lenF d T
        have hb' : hh id = some ⟨ver, List.map Cell.p (d.map encF).flatten ++ T⟩ := hb1
        generalize List.map Cell.p (d.map encF).flatten ++ T = L1 at hpa hpb hb' hlL
        obtain ⟨zz, hzz, hcall⟩ := hg.2 e f
        refine AWP.seqRegD [] [] [] mixed (by kernel_rfl) (by kernel_rfl) (fun K hK => .inl ?_) (by kernel_rfl); simp -implicitDefEqProofs only [go_sem, ↓reduceIte, Nat.reduceEqDiff, Nat.reduceAdd, Nat.reduceLT, Nat.reduceLeDiff, reduceCtorEq, Int.toNat_natCast, e0, e2, e4, hb', hpa, hpb]
        refine ⟨⟨by omega, by omega⟩, by omega, ⟨by omega, by omega⟩, by omega, ?_⟩
        refine Ud (hcall _ _) hg.1 ?_
        refine hK _ _ _ ?_; clear hK K
        have hcut : cutH (b + 0) hh id = some (rowB ver (d.map encF) T) := cutH_same (by omega) hb1 (lowCs_app (lowCs_p _ _) hT)
        have hcutO : ∀ m, m < b → m ≠ id → cutH (b + 0) hh m = h m := fun m hm hne => cutH_outS hlow (ho m hm hne) hm
        have hsg : ∀ (x y : Nat) (f1 f2 : Fl), x ≤ y → u[x]? = some f1 → u[y]? = some f2 → k f1 ≤ k f2 := fun x y f1 f2 hxy g1 g2 => by
          obtain ⟨g3, g4⟩ := List.getElem?_eq_some_iff.1 g1
          obtain ⟨g5, g6⟩ := List.getElem?_eq_some_iff.1 g2
          rw [← g4, ← g6]; exact hsu.get hxy g5
        by_cases hneg : k e < k f
        · have hz1 : zz < 0 := hzz.2 hneg
          refine Bff @hz1 ?_
          refine Ra (fun E K hE hK => ?_); refine hK _ _ _ ?_; clear hE hK K E
          exact ⟨c - i, by omega, i, c, by omega, by omega, by omega, rfl, q1, fun x f' hx hf' => by have := hsg (c - a) x f f' (by omega) hf hf'; omega, by exact Ecf @e10, by exact Er, hcut, hcutO, by refine Evf @e0 ?_; exact cutV_win hid, by exact Ecf @e1, by exact Ecf @e2, by exact Ecf @e3, by exact Ecf @e4⟩
        · have hz1 : ¬ zz < 0 := fun q => hneg (hzz.1 q)
          have hw2 : IntKind.i64.wrap ((c : Int) + 1) = ((c + 1 : Nat) : Int) := by rw [wrap_i64 (by omega) (by omega)]; rfl
          refine Btf @hz1 ?_
          refine Raf @hw2 (fun E K hE hK => ?_); refine hK _ _ _ ?_; clear hE hK K E
          exact ⟨j - (c + 1), by omega, c + 1, j, by omega, by omega, h3, rfl, fun x f' hx hf' => by have := hsg x (c - a) f' f (by omega) hf' hf; omega, q2, by exact Er, by exact Ecf @e11, hcut, hcutO, by refine Evf @e0 ?_; exact cutV_win hid, by exact Ecf @e1, by exact Ecf @e2, by exact Ecf @e3, by exact Ecf @e4⟩
      · refine Bff @hlt ?_
        refine AWP.exit ?_
        refine Ev ?_
        have hij : i = j := by omega
        subst hij
        obtain ⟨n1, rfl⟩ : ∃ n1, i = a + n1 := ⟨i - a, by omega⟩
        have hn1 : n1 ≤ u.length := by omega
        obtain ⟨s1, s2⟩ := let_in2 (y := e) hsu n1 (fun y hy => by
          obtain ⟨x, hx, rfl⟩ := List.mem_iff_getElem.1 hy
          rw [List.length_take] at hx
          rw [List.getElem_take]
          exact q1 x _ (by omega) (List.getElem?_eq_getElem (by omega))) (fun y hy => by
          obtain ⟨x, hx, rfl⟩ := List.mem_iff_getElem.1 hy
          rw [List.length_drop] at hx
          rw [List.getElem_drop]
          exact q2 (n1 + x) _ (by omega) (List.getElem?_eq_getElem (by omega)))
        obtain ⟨vt, hvt⟩ : ∃ vt, u.take n1 = vt := ⟨_, rfl⟩
        obtain ⟨vd, hvd⟩ : ∃ vd, u.drop n1 = vd := ⟨_, rfl⟩
        have hvv : u = vt ++ vd := by rw [← hvt, ← hvd, List.take_append_drop]
        have hvtl : vt.length = n1 := by rw [← hvt, List.length_take]; omega
        have hvdl : a + n1 + vd.length = m := by rw [← hvd, List.length_drop]; omega
        rw [hvt, hvd] at s1 s2
        refine AWP.seq ?_
        refine Rkf @e2 ?_
        refine AWP.block ?_
        refine AWP.loopM 0 (fun y st => ∃ w1 w2, vd = w1 ++ w2 ∧ y = w1.length ∧ st.t 14 = IntV (a + n1 : Nat) ∧ st.t 17 = IntV (a + n1 + w1.length : Nat) ∧ smS g h b id ver L cap a m z T (p ++ (vt ++ (w1 ++ (e :: (w2 ++ s))))) st) vd.length rfl
          ⟨vd, [], by rw [List.append_nil], rfl, by exact Ecf @e10, by rw [hvdl]; exact Erf @e2, by refine Ev ?_; rw [hb1, hd, hvv]; simp only [List.append_assoc, List.nil_append, List.singleton_append], by refine Ev ?_; exact ho, by exact Ecf @e0, by exact Ecf @e1, by exact Ecf @e2, by exact Ecf @e3, by exact Ecf @e4⟩ ?_
        rintro y ⟨t, hh, n⟩ ⟨w1, w2, hw, rfl, e10, e13, hb1, ho, e0, e1, e2, e3, e4⟩ hn2
        simp only at hb1 ho e0 e1 e2 e3 e4 e10 e13 hn2
        subst hn2
        have hwl : w1.length + w2.length = vd.length := by rw [hw, List.length_append]
        refine AWP.seq ?_
        refine Rkf (jn2 @e10 @e13) ?_
        by_cases hlt : ((a + n1 : Nat) : Int) < ((a + n1 + w1.length : Nat) : Int)
        · obtain ⟨w1', f, rfl⟩ : ∃ w1' f, w1 = w1' ++ [f] := by
            rcases List.eq_nil_or_concat w1 with rfl | ⟨w1', f, rfl⟩
            · simp only [List.length_nil] at hlt; omega
            · exact ⟨w1', f, List.concat_eq_append⟩
          rw [List.length_append, List.length_singleton] at hwl hlt e13
          obtain ⟨c, hc⟩ : ∃ c, a + n1 + w1'.length = c := ⟨_, rfl⟩
          rw [← Nat.add_assoc, hc] at hlt e13
          have hcl : c = (p ++ (vt ++ w1')).length := by simp only [List.length_append]; omega
          obtain ⟨D, hD⟩ : ∃ D, D = (p ++ (vt ++ w1')) ++ f :: e :: (w2 ++ s) := ⟨_, rfl⟩
          have hsw := swp_at (p ++ (vt ++ w1')) (w2 ++ s) f e (i := c + 1) (by rw [hcl])
          rw [Nat.add_sub_cancel] at hsw
          have hDl : D.length = L := by
            rw [hD]; simp only [List.length_append, List.length_cons, List.length_nil] at hL hwl ⊢; omega
          have hda : D[c]? = some f := by rw [hD, hcl, List.getElem?_append_right (Nat.le_refl _), Nat.sub_self]; rfl
          have hdc : D[c + 1]? = some e := by rw [hD, hcl, List.getElem?_append_right (by omega), Nat.add_sub_cancel_left]; rfl
          rw [show p ++ (vt ++ ((w1' ++ [f]) ++ (e :: (w2 ++ s)))) = D by rw [hD]; simp only [List.append_assoc, List.cons_append, List.nil_append]] at hb1
          rw [← hD] at hsw
          have lc : c + 1 < D.length := (List.getElem?_eq_some_iff.1 hdc).1
          have hw1 : IntKind.i64.wrap (((c + 1 : Nat) : Int) - 1) = ((c : Nat) : Int) := by rw [wrap_i64 (by omega) (by omega)]; omega
          have hpa := row_atF T hda
          have hpb := row_atF T hdc
          have hs1 := row_setF D T (c + 1) lc f
          have hs2 := row_setF (D.set (c + 1) f) T c (by simp; omega) e
          rw [hsw] at hs2
          have hb' : hh id = some ⟨ver, List.map Cell.p (D.map encF).flatten ++ T⟩ := hb1
          have hlL := row_lenF D T
          have hlL2 := row_lenF (D.set (c + 1) f) T
          rw [List.length_set] at hlL2
          generalize List.map Cell.p ((D.set (c + 1) f).map encF).flatten ++ T = L2 at hs1 hs2 hlL2
          generalize List.map Cell.p (D.map encF).flatten ++ T = L1 at hpa hpb hs1 hb' hlL
          rw [List.length_append, List.length_singleton, ← Nat.add_assoc, hc]
          refine Btf @hlt ?_
          refine AWP.skip ?_
          refine Ev ?_
          refine AWP.seq ?_
          refine AWP.block ?_
          refine AWP.rgD [122, 126] [] [id] mixed (by kernel_rfl) (by kernel_rfl) (fun K hK => ?_) (by kernel_rfl); simp -implicitDefEqProofs only [go_sem, ↓reduceIte, Nat.reduceEqDiff, Nat.reduceAdd, Nat.reduceLT, Nat.reduceLeDiff, reduceCtorEq, Int.toNat_natCast, e0, e13, hw1, hb', hpa, hpb, hs1, hs2]
          refine ⟨⟨by omega, by omega⟩, by omega, sub_ers _ _, ⟨by omega, by omega⟩, by omega, sub_ers _ _, ⟨by omega, by omega⟩, by omega, sub_at _ hb', ⟨by omega, by omega⟩, by omega, sub_at _ hb', ?_⟩
          refine hK _ _ _ ?_; clear hK K
          refine Ev ?_
          refine Raf (jn2 @e13 @hw1) (fun E K hE hK => ?_); refine hK _ _ _ ?_; clear hE hK K E
          exact ⟨w1'.length, by omega, w1', f :: w2, by rw [hw, List.append_assoc]; rfl, rfl, by exact Ecf @e10, by rw [hc]; exact Er, cutH_same (by omega) (by (first | (simp -implicitDefEqProofs only [go_sem, ↓reduceIte, Nat.reduceEqDiff, Nat.reduceAdd, Nat.reduceLT, Nat.reduceLeDiff, reduceCtorEq, Int.toNat_natCast, List.append_assoc, List.cons_append, List.nil_append]; first | done | rfl) | rfl)) (lowCs_app (lowCs_p _ _) hT), fun m hm hne => cutH_outS hlow (by refine Evf @hne ?_; exact ho m hm hne) hm, by refine Evf @e0 ?_; exact cutV_win hid, by exact Ecf @e1, by exact Ecf @e2, by exact Ecf @e3, by exact Ecf @e4⟩
        · refine Bff @hlt ?_
          have hw2 : w1 = [] := List.eq_nil_of_length_eq_zero (by omega)
          subst hw2
          refine AWP.exit ?_
          refine Ev ?_
          refine AWP.ret ?_
          refine Ev ?_
          rw [List.nil_append] at hw
          subst hw
          exact fin _ _ _ (vt ++ e :: vd) s1 (by rw [hvv]; rw [hvv] at s2; exact s2) (by simp only [List.length_append, List.length_cons, List.length_nil]; omega) (by rw [hb1]; simp only [List.append_assoc, List.cons_append, List.nil_append]) ho
    · refine Rkf (jn2 @w2 @hv1) ?_
      refine Bs ?_
      clear hu1 hv1
      obtain ⟨m1, m2, m3, m4⟩ := mid_facts (i := a) (j := z) (by omega)
      obtain ⟨md, hmd⟩ : ∃ md, (a + z) / 2 = md := ⟨_, rfl⟩
      rw [hmd] at m3 m4
      have h10 : ¬ (1 : Int) < 0 := by decide
      have kn : IntKind.i64.wrap ((md : Int) + (m : Int)) = ((md + m : Nat) : Int) := by rw [wrap_i64 (by omega) (by omega)]; omega
      refine Rkf (jn5 @m1 @m2 @m3 @m4 @h10) ?_
      refine Rkf @kn ?_
      refine Rk ?_
      refine AWP.mid (fun st => ∃ st0 r0 : Nat, (a ≤ st0 ∧ st0 ≤ r0 ∧ r0 ≤ m ∧ r0 ≤ md ∧ md + m ≤ z + st0 ∧ (st0 = a ∨ st0 + z = md + m) ∧ (r0 = m ∨ r0 = md)) ∧ st.n = 0 ∧ st.t 20 = IntV (st0 : Nat) ∧ st.t 21 = IntV (r0 : Nat) ∧ st.t 18 = IntV (md : Nat) ∧ st.t 19 = IntV (md + m : Nat) ∧ smS g h b id ver L cap a m z T d st) ?_ ?_
      · by_cases hmm : (md : Int) < m
        · have kz : IntKind.i64.wrap (((md + m : Nat) : Int) - (z : Int)) = ((md + m - z : Nat) : Int) := by rw [wrap_i64 (by omega) (by omega)]; omega
          refine Rkf @hmm ?_
          refine Bt ?_
          refine Rkf @kz ?_
          refine Ra (fun E K hE hK => ?_); refine hK _ _ _ ?_; clear hE hK K E
          exact ⟨md + m - z, md, ⟨by omega, by omega, by omega, by omega, by omega, .inr (by omega), .inr rfl⟩, rfl, by exact Er, by exact Er, by exact Er, by exact Er, hb, fun _ _ _ => rfl, by exact Er, by exact Er, by exact Er, by exact Er, by exact Er⟩
        · refine Rkf @hmm ?_
          refine Bf ?_
          refine Rk ?_
          refine Ra (fun E K hE hK => ?_); refine hK _ _ _ ?_; clear hE hK K E
          exact ⟨a, m, ⟨by omega, by omega, by omega, by omega, by omega, .inl rfl, .inl rfl⟩, rfl, by exact Er, by exact Er, by exact Er, by exact Er, hb, fun _ _ _ => rfl, by exact Er, by exact Er, by exact Er, by exact Er, by exact Er⟩
      rintro ⟨t, hh, n⟩ ⟨st0, r0, ⟨b1, b2, b3, b4, b5, b6, b7⟩, hn1, e20, e21, e18, e19, hb1, ho, e0, e1, e2, e3, e4⟩
      simp only at e20 e21 e18 e19 hb1 ho e0 e1 e2 e3 e4 hn1
      subst hn1
      have kp : IntKind.i64.wrap (((md + m : Nat) : Int) - 1) = ((md + m - 1 : Nat) : Int) := by rw [wrap_i64 (by omega) (by omega)]; omega
      refine Rkf (jn2 @e19 @kp) ?_
      refine AWP.seq ?_
      refine AWP.block ?_
      refine AWP.loopM 0 (fun y st => ∃ i j, st0 ≤ i ∧ i ≤ j ∧ j ≤ r0 ∧ y = j - i ∧ (st0 < i → ∀ f e, d[i - 1]? = some f → d[md + m - i]? = some e → k f ≤ k e) ∧ (j < r0 → ∀ f e, d[j]? = some f → d[md + m - 1 - j]? = some e → k e < k f) ∧
          st.t 20 = IntV (i : Nat) ∧ st.t 21 = IntV (j : Nat) ∧ st.t 22 = IntV (md + m - 1 : Nat) ∧ st.t 18 = IntV (md : Nat) ∧ st.t 19 = IntV (md + m : Nat) ∧ smS g h b id ver L cap a m z T d st) (r0 - st0) rfl
        ⟨st0, r0, Nat.le_refl _, b2, Nat.le_refl _, rfl, fun h => absurd h (Nat.lt_irrefl _), fun h => absurd h (Nat.lt_irrefl _), by exact Ecf @e20, by exact Ecf @e21, by exact Er, by exact Ecf @e18, by exact Ecf @e19, hb1, ho, by exact Ecf @e0, by exact Ecf @e1, by exact Ecf @e2, by exact Ecf @e3, by exact Ecf @e4⟩ ?_
      clear e20 e21 e18 e19 hb1 ho e0 e1 e2 e3 e4
      rintro y ⟨t, hh, n⟩ ⟨i, j, h1, h2, h3, rfl, q1, q2, e20, e21, e22, e18, e19, hb1, ho, e0, e1, e2, e3, e4⟩ hn1
      simp only at hb1 ho e0 e1 e2 e3 e4 e18 e19 e20 e21 e22 hn1
      subst hn1
      refine AWP.seq ?_
      refine Rkf (jn2 @e20 @e21) ?_
      by_cases hlt : (i : Int) < j
      · refine Btf @hlt ?_
        refine AWP.skip ?_
        refine Ev ?_
        refine AWP.block ?_
        obtain ⟨m1, m2, m3, m4⟩ := mid_facts (i := i) (j := j) (by omega)
        obtain ⟨c, hc⟩ : ∃ c, (i + j) / 2 = c := ⟨_, rfl⟩
        have hci : i ≤ c ∧ c < j := by omega
        rw [hc] at m3 m4
        have kq : IntKind.i64.wrap (((md + m - 1 : Nat) : Int) - (c : Int)) = ((md + m - 1 - c : Nat) : Int) := by rw [wrap_i64 (by omega) (by omega)]; omega
        refine Rkf (jn7 @e20 @e21 @m1 @m2 @m3 @m4 @h10) ?_
        obtain ⟨f, hf⟩ : ∃ f, d[c]? = some f := ⟨d[c]'(by omega), List.getElem?_eq_getElem _⟩
        obtain ⟨e, he⟩ : ∃ e, d[md + m - 1 - c]? = some e := ⟨d[md + m - 1 - c]'(by omega), List.getElem?_eq_getElem _⟩
        have hpa := row_atF T he
        have hpb := row_atF T hf
        have hlL := row_lenF d T
        have hb' : hh id = some ⟨ver, List.map Cell.p (d.map encF).flatten ++ T⟩ := hb1
        generalize List.map Cell.p (d.map encF).flatten ++ T = L1 at hpa hpb hb' hlL
        obtain ⟨zz, hzz, hcall⟩ := hg.2 e f
        refine AWP.seqRegD [] [] [] mixed (by kernel_rfl) (by kernel_rfl) (fun K hK => .inl ?_) (by kernel_rfl); simp -implicitDefEqProofs only [go_sem, ↓reduceIte, Nat.reduceEqDiff, Nat.reduceAdd, Nat.reduceLT, Nat.reduceLeDiff, reduceCtorEq, Int.toNat_natCast, e0, e22, e4, kq, hb', hpa, hpb]
        refine ⟨⟨by omega, by omega⟩, by omega, ⟨by omega, by omega⟩, by omega, ?_⟩
        refine Ud (hcall _ _) hg.1 ?_
        refine hK _ _ _ ?_; clear hK K
        have hcut : cutH (b + 0) hh id = some (rowB ver (d.map encF) T) := cutH_same (by omega) hb1 (lowCs_app (lowCs_p _ _) hT)
        have hcutO : ∀ m, m < b → m ≠ id → cutH (b + 0) hh m = h m := fun m hm hne => cutH_outS hlow (ho m hm hne) hm
        by_cases hneg : k e < k f
        · have hz1 : zz < 0 := hzz.2 hneg
          refine Bff @hz1 ?_
          refine Ra (fun E K hE hK => ?_); refine hK _ _ _ ?_; clear hE hK K E
          exact ⟨c - i, by omega, i, c, by omega, by omega, by omega, rfl, q1, fun _ f' e' hf' he' => by rw [hf] at hf'; rw [he] at he'; injection hf' with hf'; injection he' with he'; subst hf'; subst he'; exact hneg, by exact Ecf @e20, by exact Er, by exact Ecf @e22, by exact Ecf @e18, by exact Ecf @e19, hcut, hcutO, by refine Evf @e0 ?_; exact cutV_win hid, by exact Ecf @e1, by exact Ecf @e2, by exact Ecf @e3, by exact Ecf @e4⟩
        · have hz1 : ¬ zz < 0 := fun q => hneg (hzz.1 q)
          have hw2 : IntKind.i64.wrap ((c : Int) + 1) = ((c + 1 : Nat) : Int) := by rw [wrap_i64 (by omega) (by omega)]; rfl
          refine Btf @hz1 ?_
          refine Raf @hw2 (fun E K hE hK => ?_); refine hK _ _ _ ?_; clear hE hK K E
          exact ⟨j - (c + 1), by omega, c + 1, j, by omega, by omega, h3, rfl, fun _ f' e' hf' he' => by rw [Nat.add_sub_cancel, hf] at hf'; rw [show md + m - (c + 1) = md + m - 1 - c by omega, he] at he'; injection hf' with hf'; injection he' with he'; subst hf'; subst he'; omega, q2, by exact Er, by exact Ecf @e21, by exact Ecf @e22, by exact Ecf @e18, by exact Ecf @e19, hcut, hcutO, by refine Evf @e0 ?_; exact cutV_win hid, by exact Ecf @e1, by exact Ecf @e2, by exact Ecf @e3, by exact Ecf @e4⟩
      · refine Bff @hlt ?_
        refine AWP.exit ?_
        refine Ev ?_
        have hij : i = j := by omega
        subst hij
        have ke : IntKind.i64.wrap (((md + m : Nat) : Int) - (i : Int)) = ((md + m - i : Nat) : Int) := by rw [wrap_i64 (by omega) (by omega)]; omega
        obtain ⟨en, hen⟩ : ∃ en, md + m - i = en := ⟨_, rfl⟩
        rw [hen] at ke
        refine Rkf (jn3 @e19 @e20 @ke) ?_
        obtain ⟨B1, B2⟩ := bound (i := i - a) (j := en - m) hsu hsv (by omega) (by omega)
          (fun g1 g2 => q1 (by omega) _ _ (by rw [hdu (i - 1) (by omega) (by omega), show i - 1 - a = i - a - 1 by omega]; exact List.getElem?_eq_getElem _) (by rw [hen, hdv en (by omega) (by omega)]; exact List.getElem?_eq_getElem _))
          (fun g1 g2 => q2 (by omega) _ _ (by rw [hdu i (by omega) (by omega)]; exact List.getElem?_eq_getElem _) (by rw [hdv (md + m - 1 - i) (by omega) (by omega), show md + m - 1 - i - m = en - m - 1 by omega]; exact List.getElem?_eq_getElem _))
        obtain ⟨u1, hu1⟩ : ∃ u1, u.take (i - a) = u1 := ⟨_, rfl⟩
        obtain ⟨u2, hu2⟩ : ∃ u2, u.drop (i - a) = u2 := ⟨_, rfl⟩
        obtain ⟨v1, hv1⟩ : ∃ v1, v.take (en - m) = v1 := ⟨_, rfl⟩
        obtain ⟨v2, hv2⟩ : ∃ v2, v.drop (en - m) = v2 := ⟨_, rfl⟩
        have huu : u = u1 ++ u2 := by rw [← hu1, ← hu2, List.take_append_drop]
        have hvv : v = v1 ++ v2 := by rw [← hv1, ← hv2, List.take_append_drop]
        have l1 : a + u1.length = i := by rw [← hu1, List.length_take]; omega
        have l2 : i + u2.length = m := by rw [← hu2, List.length_drop]; omega
        have l3 : m + v1.length = en := by rw [← hv1, List.length_take]; omega
        have l4 : en + v2.length = z := by rw [← hv2, List.length_drop]; omega
        rw [hu1, hv2] at B2
        rw [hu2, hv1] at B1
        clear hu1 hu2 hv1 hv2
        have su1 : Srt k u1 := (List.pairwise_append.1 (huu ▸ hsu)).1
        have su2 : Srt k u2 := (List.pairwise_append.1 (huu ▸ hsu)).2.1
        have sv1 : Srt k v1 := (List.pairwise_append.1 (hvv ▸ hsv)).1
        have sv2 : Srt k v2 := (List.pairwise_append.1 (hvv ▸ hsv)).2.1
        have hd2 : d = p ++ (u1 ++ (u2 ++ (v1 ++ (v2 ++ s)))) := by rw [hd, huu, hvv]; simp only [List.append_assoc]
        rw [hd2] at hb1
        refine AWP.mid (fun st => st.n = 0 ∧ st.t 20 = IntV (i : Nat) ∧ st.t 24 = IntV (en : Nat) ∧ st.t 18 = IntV (md : Nat) ∧ smS g h b id ver L cap a m z T (p ++ (u1 ++ (v1 ++ (u2 ++ (v2 ++ s))))) st) ?_ ?_
        · by_cases c1 : (i : Int) < m
          · by_cases c2 : (m : Int) < en
            · refine Rkf (jn5 @e20 @e2 @c1 @c2 @Bool.and_self) ?_
              refine Bt ?_
              refine Raf (jn4 @e0 @e2 @e4 @e20) (fun E K hE hK => ?_)
              refine CallR.use ((rotate_ok (p ++ u1) u2 v1 (v2 ++ s) (by rintro rfl; simp only [List.length_nil] at l2; omega) (by rintro rfl; simp only [List.length_nil] at l3; omega) g hh _ id ver cap T (show id < b + 0 by omega) (by simp only [List.length_append]; omega) (by rw [hb1, List.append_assoc]) hT).arg_eq (by
                simp only [List.length_append]
                rw [show p.length + u1.length + u2.length + v1.length + (v2.length + s.length) = L by omega, show p.length + u1.length + u2.length + v1.length = en by omega, show p.length + u1.length + u2.length = m by omega, show p.length + u1.length = i by omega])) body_145 ?_
              rintro _ _ ⟨rfl, rfl⟩
              refine Ev ?_
              refine hK _ _ _ ?_; clear hE hK K E
              refine ⟨rfl, by exact Ecf @e20, by exact Er, by exact Ecf @e18, by (first | (simp -implicitDefEqProofs only [go_sem, ↓reduceIte, Nat.reduceEqDiff, Nat.reduceAdd, Nat.reduceLT, Nat.reduceLeDiff, reduceCtorEq, Int.toNat_natCast, List.append_assoc]; first | done | rfl) | rfl), fun k hk hne => by refine Evf @hne ?_; exact ho k hk hne, by exact Ecf @e0, by exact Ecf @e1, by exact Ecf @e2, by exact Ecf @e3, by exact Ecf @e4⟩
            · refine Rkf (jn5 @e20 @e2 @c1 @c2 @Bool.and_self) ?_
              refine Bf ?_
              refine AWP.skip ?_
              have : v1 = [] := List.eq_nil_of_length_eq_zero (by omega)
              refine ⟨rfl, by exact Ecf @e20, by exact Er, by exact Ecf @e18, by rw [this] at hb1 ⊢; exact hb1, ho, by exact Ecf @e0, by exact Ecf @e1, by exact Ecf @e2, by exact Ecf @e3, by exact Ecf @e4⟩
          · refine Rkf (jn4 @e20 @e2 @c1 @Bool.and_self) ?_
            refine Bf ?_
            refine AWP.skip ?_
            have : u2 = [] := List.eq_nil_of_length_eq_zero (by omega)
            refine ⟨rfl, by exact Ecf @e20, by exact Er, by exact Ecf @e18, by rw [this] at hb1 ⊢; exact hb1, ho, by exact Ecf @e0, by exact Ecf @e1, by exact Ecf @e2, by exact Ecf @e3, by exact Ecf @e4⟩
        clear e20 e21 e22 e18 e19 hb1 ho e0 e1 e2 e3 e4
        rintro ⟨t, hh, n⟩ ⟨hn1, e20, e24, e18, hb1, ho, e0, e1, e2, e3, e4⟩
        simp only at e20 e24 e18 hb1 ho e0 e1 e2 e3 e4 hn1
        subst hn1
        refine AWP.mid (fun st => st.n = 0 ∧ st.t 24 = IntV (en : Nat) ∧ st.t 18 = IntV (md : Nat) ∧ ∃ qa, Srt k qa ∧ FEq k (u1 ++ v1) qa ∧ qa.length = u1.length + v1.length ∧ smS g h b id ver L cap a m z T (p ++ (qa ++ (u2 ++ (v2 ++ s)))) st) ?_ ?_
        · by_cases c1 : (a : Int) < i
          · by_cases c2 : (i : Int) < md
            · refine Rkf (jn6 @e1 @e18 @e20 @c1 @c2 @Bool.and_self) ?_
              refine Bt ?_
              refine Raf (jn5 @e0 @e1 @e18 @e20 @e4) (fun E K hE hK => ?_)
              refine CallR.use (ih (u1.length + v1.length) (by omega) p u1 v1 (u2 ++ (v2 ++ s)) hh _ id ver L cap a i md T rfl (by rintro rfl; simp only [List.length_nil] at l1; omega) (by rintro rfl; simp only [List.length_nil] at l3; omega) su1 sv1 (show id < b + 0 by omega) (by simp only [List.length_append]; omega) ha (by omega) (by omega) hn hb1 hT) body_135 ?_
              rintro _ _ ⟨rfl, qa, g1, g2, g3, rfl⟩
              refine Ev ?_
              refine hK _ _ _ ?_; clear hE hK K E
              refine ⟨rfl, by exact Ecf @e24, by exact Ecf @e18, qa, g1, g2, by rw [g3, List.length_append], by exact Er, fun k hk hne => by refine Evf @hne ?_; exact ho k hk hne, by exact Ecf @e0, by exact Ecf @e1, by exact Ecf @e2, by exact Ecf @e3, by exact Ecf @e4⟩
            · refine Rkf (jn6 @e1 @e18 @e20 @c1 @c2 @Bool.and_self) ?_
              refine Bf ?_
              refine AWP.skip ?_
              have : v1 = [] := List.eq_nil_of_length_eq_zero (by omega)
              refine ⟨rfl, by exact Ecf @e24, by exact Ecf @e18, u1, su1, by rw [this, List.append_nil]; exact FEq.refl _ _, by rw [this]; rfl, by rw [this] at hb1; exact hb1, ho, by exact Ecf @e0, by exact Ecf @e1, by exact Ecf @e2, by exact Ecf @e3, by exact Ecf @e4⟩
          · refine Rkf (jn4 @e1 @e20 @c1 @Bool.and_self) ?_
            refine Bf ?_
            refine AWP.skip ?_
            have : u1 = [] := List.eq_nil_of_length_eq_zero (by omega)
            refine ⟨rfl, by exact Ecf @e24, by exact Ecf @e18, v1, sv1, by rw [this]; exact FEq.refl _ _, by rw [this, List.length_nil, Nat.zero_add], by rw [this] at hb1; exact hb1, ho, by exact Ecf @e0, by exact Ecf @e1, by exact Ecf @e2, by exact Ecf @e3, by exact Ecf @e4⟩
        clear e20 e24 e18 hb1 ho e0 e1 e2 e3 e4
        rintro ⟨t, hh, n⟩ ⟨hn1, e24, e18, qa, g1, g2, g3, hb1, ho, e0, e1, e2, e3, e4⟩
        simp only at e24 e18 hb1 ho e0 e1 e2 e3 e4 hn1
        subst hn1
        have hfin : ∀ (t : Nat → AV) (hh : Heap) (nn : Nat) (qb : List Fl), Srt k qb → FEq k (u2 ++ v2) qb → qb.length = u2.length + v2.length → hh id = some (rowB ver ((p ++ (qa ++ (qb ++ s))).map encF) T) → (∀ m, m < b → m ≠ id → hh m = h m) →
            Am.Ends Tryd.prog ⟨Tryd.f135.ntmps, b, ι, h, w, x0⟩ Tryd.f135 0 (SymR k p (u ++ v) s h id ver T) ⟨t, hh, nn⟩ := by
          intro t hh nn qb k1 k2 k3 k4 k5
          obtain ⟨r1, r2⟩ := sym_cut (huu ▸ hsu) (hvv ▸ hsv) B1 B2 g1 g2 k1 k2
          rw [← huu, ← hvv] at r2
          exact fin t hh nn (qa ++ qb) r1 r2 (by simp only [List.length_append]; omega) (by rw [k4]; simp only [List.append_assoc]) k5
        by_cases c1 : (md : Int) < en
        · by_cases c2 : (en : Int) < z
          · refine Rkf (jn6 @e3 @e18 @e24 @c1 @c2 @Bool.and_self) ?_
            refine Bt ?_
            refine Raf (jn5 @e0 @e3 @e18 @e24 @e4) (fun E K hE hK => ?_)
            refine CallR.use (ih (u2.length + v2.length) (by omega) (p ++ qa) u2 v2 s hh _ id ver L cap md en z T rfl (by rintro rfl; simp only [List.length_nil] at l2; omega) (by rintro rfl; simp only [List.length_nil] at l4; omega) su2 sv2 (show id < b + 0 by omega) (by rw [List.length_append]; omega) (by rw [List.length_append]; omega) (by rw [List.length_append]; omega) (by rw [List.length_append]; omega) hn (by rw [hb1, List.append_assoc]) hT) body_135 ?_
            rintro _ _ ⟨rfl, qb, k1, k2, k3, rfl⟩
            refine Ev ?_
            refine hK _ _ _ ?_; clear hE hK K E
            exact hfin _ _ _ qb k1 k2 (by rw [k3, List.length_append]) (by (first | (simp -implicitDefEqProofs only [go_sem, ↓reduceIte, Nat.reduceEqDiff, Nat.reduceAdd, Nat.reduceLT, Nat.reduceLeDiff, reduceCtorEq, Int.toNat_natCast, List.append_assoc]; first | done | rfl) | rfl)) (fun k hk hne => by refine Evf @hne ?_; exact ho k hk hne)
          · refine Rkf (jn6 @e3 @e18 @e24 @c1 @c2 @Bool.and_self) ?_
            refine Bf ?_
            refine AWP.skip ?_
            have : v2 = [] := List.eq_nil_of_length_eq_zero (by omega)
            exact hfin _ _ _ u2 su2 (by rw [this, List.append_nil]; exact FEq.refl _ _) (by rw [this]; rfl) (by rw [this] at hb1; exact hb1) ho
        · refine Rkf (jn4 @e18 @e24 @c1 @Bool.and_self) ?_
          refine Bf ?_
          refine AWP.skip ?_
          have : u2 = [] := List.eq_nil_of_length_eq_zero (by omega)
          exact hfin _ _ _ v2 sv2 (by rw [this]; exact FEq.refl _ _) (by rw [this, List.length_nil, Nat.zero_add]) (by rw [this] at hb1; exact hb1) ho
end Go.Proofs.YtengjcdilnikhaaDoor

namespace Go.Proofs.YtengjcdilnikhaaDoor
set_option linter.unusedSimpArgs false
set_option linter.unusedVariables false
set_option linter.unnecessarySimpa false
open Go Am So
set_option maxRecDepth 100000

/-- each block of so many rises -/
def Pre (k : Fl → Int) (c : Nat) (d : List Fl) : Prop := ∀ i, Srt k ((d.drop (c * i)).take c)
theorem Pre.nil (k : Fl → Int) (c : Nat) : Pre k c [] := fun i => by simp
theorem Pre.snoc {k : Fl → Int} {c j : Nat} {p q : List Fl} (h : Pre k c p) (hp : p.length = c * j) (hq : Srt k q) : Pre k c (p ++ q) := fun i => by
  by_cases hi : i < j
  · have : c * (i + 1) ≤ c * j := Nat.mul_le_mul_left c hi
    rw [Nat.mul_succ] at this
    rw [List.drop_append_of_le_length (by omega), List.take_append_of_le_length (by rw [List.length_drop]; omega)]
    exact h i
  · have : c * j ≤ c * i := Nat.mul_le_mul_left c (by omega)
    rw [List.drop_append, List.drop_eq_nil_of_le (by omega), List.nil_append]
    exact (hq.drop _).take _
theorem Pre.drop {k : Fl → Int} {c : Nat} {d : List Fl} (h : Pre k c d) (m : Nat) : Pre k c (d.drop (c * m)) := fun i => by
  rw [List.drop_drop, ← Nat.mul_add]
  exact h _

def stS (g : FuncId) (h : Heap) (b id ver L cap : Nat) (T : List Cell) (d : List Fl) (st : St) : Prop :=
  st.h id = some (rowB ver (d.map encF) T) ∧ (∀ k, k < b → k ≠ id → st.h k = h k) ∧ st.t 0 = .one (.win id ver 0 L cap) ∧ st.t 1 = IntV (L : Nat) ∧ st.t 2 = .one (.clo (.func g) [] [])

def StR (k : Fl → Int) (x : List Fl) (h : Heap) (id ver : Nat) (T : List Cell) (r : AV) (h' : Heap) : Prop :=
  r = .tup [] ∧ ∃ q, Srt k q ∧ FEq k x q ∧ q.length = x.length ∧ h' = upd h id (rowB ver (q.map encF) T)

theorem stable_ok {g : FuncId} {k : Fl → Int} (hg : CmpOk g k) (x : List Fl) (h : Heap) (b id ver L cap : Nat) (T : List Cell) (hid : id < b) (hL : L = x.length) (hn : L ≤ 1000000)
    (hb : h id = some (rowB ver (x.map encF) T)) (hT : lowCs b T = true) :
    ACalls Tryd.prog 117 [.one (.win id ver 0 L cap), IntV (L : Nat), .one (.clo (.func g) [] [])] h b 0 (StR k x h id ver T) := by
  refine ACalls.enter Tryd.func117 rfl (by simp [Tryd.ntmps117]) (fun ι w hnn H => ?_)
  have hlow := H.lowCells
  have fin : ∀ (t : Nat → AV) (hh : Heap) (nn : Nat) (q : List Fl), Srt k q → FEq k x q → q.length = x.length → hh id = some (rowB ver (q.map encF) T) → (∀ m, m < b → m ≠ id → hh m = h m) →
      Am.Ends Tryd.prog ⟨Tryd.f117.ntmps, b, ι, h, w, x0⟩ Tryd.f117 0 (StR k x h id ver T) ⟨t, hh, nn⟩ := by
    intro t hh nn q h1 h2 h3 h4 ho
    exact Ends.turn hnn H hid (upd_all h4 ho) (lowCs_app (lowCs_p _ _) hT) (r0 := .tup []) rfl (frz_tup0 _ _) ⟨rfl, q, h1, h2, h3, rfl⟩
  refine Rk ?_
  refine Rk ?_
  refine AWP.mid (fun st => st.n = 0 ∧ st.t 6 = IntV 20 ∧ ∃ p r j, p.length = 20 * j ∧ Pre k 20 p ∧ FEq k x (p ++ r) ∧ p.length + r.length = L ∧ r.length < 20 ∧ st.t 7 = IntV p.length ∧ stS g h b id ver L cap T (p ++ r) st) ?_ ?_
  · refine AWP.block ?_
    refine AWP.loopM 0 (fun y st => ∃ p r j, y = r.length ∧ p.length = 20 * j ∧ Pre k 20 p ∧ FEq k x (p ++ r) ∧ p.length + r.length = L ∧ st.t 6 = IntV 20 ∧ st.t 7 = IntV p.length ∧ st.t 8 = IntV (p.length + 20 : Nat) ∧ stS g h b id ver L cap T (p ++ r) st) x.length rfl
      ⟨[], x, 0, rfl, rfl, Pre.nil _ _, FEq.refl _ _, by simp [hL], by exact Er, by exact Er, by exact Er, hb, fun _ _ _ => rfl, by exact Er, by exact Er, by exact Er⟩ ?_
    rintro y ⟨t, hh, n⟩ ⟨p, r, j, rfl, hp, hpre, hfe, hlen, e6, e7, e8, hb1, ho, e0, e1, e2⟩ hn1
    simp only at hb1 ho e0 e1 e2 e6 e7 e8 hn1
    subst hn1
    refine AWP.seq ?_
    refine Rkf (jn2 @e8 @e1) ?_
    by_cases hlt : ((p.length + 20 : Nat) : Int) ≤ (L : Nat)
    · refine Btf @hlt ?_
      refine AWP.skip ?_
      refine Ev ?_
      refine AWP.block ?_
      obtain ⟨y, s, rfl, ly⟩ : ∃ y s, r = y ++ s ∧ y.length = 20 := ⟨r.take 20, r.drop 20, (List.take_append_drop _ _).symm, by rw [List.length_take]; omega⟩
      rw [List.length_append] at hlen
      refine Rgf (jn4 @e0 @e7 @e8 @e2) (fun E K hE hK => ?_)
      refine CallR.use (insertion_ok hg p y s hh _ id ver L cap (p.length + 20) T (show id < b + 0 by omega) (by omega) (by omega) hn hb1 hT) body_134 ?_
      rintro _ _ ⟨rfl, q, g1, g2, g3, rfl⟩
      refine Ev ?_
      refine hK _ _ _ ?_; clear hE hK K E
      have kw : IntKind.i64.wrap (((p.length + 20 : Nat) : Int) + 20) = ((p.length + 20 + 20 : Nat) : Int) := by rw [wrap_i64 (by omega) (by omega)]; omega
      refine Rkf @e8 ?_
      refine Raf (jn3 @e8 @e6 @kw) (fun E K hE hK => ?_); refine hK _ _ _ ?_; clear hE hK K E
      have hpq : (p ++ q).length = p.length + 20 := by rw [List.length_append, g3, ly]
      exact ⟨s.length, by rw [List.length_append]; omega, p ++ q, s, j + 1, rfl, by rw [hpq, hp]; omega, hpre.snoc hp g1, hfe.trans (by rw [List.append_assoc]; exact (FEq.refl _ _).app (g2.app (FEq.refl _ _))), by rw [hpq]; omega, by exact Ecf @e6, by rw [hpq]; exact Er, by rw [hpq]; exact Er,
        cutH_same (by omega) (by (first | (simp -implicitDefEqProofs only [go_sem, ↓reduceIte, Nat.reduceEqDiff, Nat.reduceAdd, Nat.reduceLT, Nat.reduceLeDiff, reduceCtorEq, Int.toNat_natCast, List.append_assoc]; first | done | rfl) | rfl)) (lowCs_app (lowCs_p _ _) hT), fun m hm hne => cutH_outS hlow (by refine Evf @hne ?_; exact ho m hm hne) hm, by refine Evf @e0 ?_; exact cutV_win hid, by exact Ecf @e1, by exact Ecf @e2⟩
    · refine Bff @hlt ?_
      refine AWP.exit ?_
      refine Ev ?_
      exact ⟨by exact Ecf @e6, p, r, j, hp, hpre, hfe, hlen, by omega, by exact Ecf @e7, hb1, ho, by exact Ecf @e0, by exact Ecf @e1, by exact Ecf @e2⟩
  rintro ⟨t, hh, n⟩ ⟨hn1, e6, p, r, j, hp, hpre, hfe, hlen, hr, e7, hb1, ho, e0, e1, e2⟩
  simp only at hb1 ho e0 e1 e2 e6 e7 hn1
  subst hn1
  refine Rgf (jn4 @e0 @e7 @e1 @e2) (fun E K hE hK => ?_)
  refine CallR.use (insertion_ok hg p r [] hh _ id ver L cap L T (show id < b + 0 by omega) (by simp; omega) (by omega) hn (by rw [hb1, List.append_nil]) hT) body_134 ?_
  rintro _ _ ⟨rfl, q, g1, g2, g3, rfl⟩
  refine Ev ?_
  refine hK _ _ _ ?_; clear hE hK K E
  refine AWP.block ?_
  refine AWP.loopM 0 (fun y st => ∃ bs d, y = L - bs ∧ 20 ≤ bs ∧ bs ≤ 2000000 ∧ Pre k bs d ∧ FEq k x d ∧ d.length = L ∧ st.t 6 = IntV (bs : Nat) ∧ stS g h b id ver L cap T d st) (L - 20) rfl
    ⟨20, p ++ q, rfl, Nat.le_refl _, by decide, hpre.snoc hp g1, hfe.trans ((FEq.refl _ _).app g2), by rw [List.length_append]; omega, by exact Erf @e6, by exact Er, fun k hk hne => by refine Evf @hne ?_; exact ho k hk hne, by exact Ecf @e0, by exact Ecf @e1, by exact Ecf @e2⟩ ?_
  clear hpre hfe hp hlen hr e6 e7 hb1 ho e0 e1 e2 g1 g2 g3 p q r t hh j
  rintro y ⟨t, hh, n⟩ ⟨bs, d, rfl, hbs, hbs2, hpre, hfe, hdl, e6, hb1, ho, e0, e1, e2⟩ hn1
  simp only at hb1 ho e0 e1 e2 e6 hn1
  subst hn1
  refine AWP.seq ?_
  refine Rkf (jn2 @e6 @e1) ?_
  by_cases hlt : ((bs : Nat) : Int) < (L : Nat)
  · refine Btf @hlt ?_
    refine AWP.skip ?_
    refine Ev ?_
    refine AWP.block ?_
    have k2 : IntKind.i64.wrap (2 * (bs : Int)) = ((2 * bs : Nat) : Int) := by rw [wrap_i64 (by omega) (by omega)]; omega
    have k3 : IntKind.i64.wrap ((bs : Int) * 2) = ((2 * bs : Nat) : Int) := by rw [wrap_i64 (by omega) (by omega)]; omega
    refine Rkf (jn2 @e6 @k2) ?_
    refine AWP.mid (fun st => st.n = 0 ∧ st.t 6 = IntV (bs : Nat) ∧ ∃ p r j, p.length = 2 * bs * j ∧ Pre k (2 * bs) p ∧ Pre k bs r ∧ FEq k x (p ++ r) ∧ p.length + r.length = L ∧ r.length < 2 * bs ∧ st.t 7 = IntV p.length ∧ stS g h b id ver L cap T (p ++ r) st) ?_ ?_
    · refine AWP.block ?_
      refine AWP.loopM 0 (fun y st => ∃ p r j, y = r.length ∧ p.length = 2 * bs * j ∧ Pre k (2 * bs) p ∧ Pre k bs r ∧ FEq k x (p ++ r) ∧ p.length + r.length = L ∧ st.t 6 = IntV (bs : Nat) ∧ st.t 7 = IntV p.length ∧ st.t 8 = IntV (p.length + 2 * bs : Nat) ∧ stS g h b id ver L cap T (p ++ r) st) d.length rfl
        ⟨[], d, 0, rfl, rfl, Pre.nil _ _, hpre, hfe, by simp [hdl], by exact Ecf @e6, by exact Er, by rw [List.length_nil, Nat.zero_add]; exact Er, hb1, ho, by exact Ecf @e0, by exact Ecf @e1, by exact Ecf @e2⟩ ?_
      clear hpre hfe hdl hb1 ho e0 e1 e2 e6
      rintro y ⟨t, hh, n⟩ ⟨p, r, j, rfl, hp, hpre, hpr, hfe, hlen, e6, e7, e8, hb1, ho, e0, e1, e2⟩ hn1
      simp only at hb1 ho e0 e1 e2 e6 e7 e8 hn1
      subst hn1
      refine AWP.seq ?_
      refine Rkf (jn2 @e8 @e1) ?_
      by_cases hlt : ((p.length + 2 * bs : Nat) : Int) ≤ (L : Nat)
      · refine Btf @hlt ?_
        refine AWP.skip ?_
        refine Ev ?_
        refine AWP.block ?_
        have d0 := hpr 0
        have d1 := hpr 1
        have d2 := hpr.drop 2
        rw [Nat.mul_zero, List.drop_zero] at d0
        rw [Nat.mul_one] at d1
        obtain ⟨u, hu⟩ : ∃ u, r.take bs = u := ⟨_, rfl⟩
        obtain ⟨v, hv⟩ : ∃ v, (r.drop bs).take bs = v := ⟨_, rfl⟩
        obtain ⟨s, hs⟩ : ∃ s, r.drop (bs * 2) = s := ⟨_, rfl⟩
        have hr : r = u ++ (v ++ s) := by rw [← hu, ← hv, ← hs, show bs * 2 = bs + bs by omega, ← List.drop_drop, List.take_append_drop, List.take_append_drop]
        have lu : u.length = bs := by rw [← hu, List.length_take]; omega
        have lv : v.length = bs := by rw [← hv, List.length_take, List.length_drop]; omega
        rw [hu] at d0
        rw [hv] at d1
        rw [hs] at d2
        clear hu hv hs hpr
        subst hr
        simp only [List.length_append] at hlen
        have kw : IntKind.i64.wrap ((p.length : Int) + (bs : Int)) = ((p.length + bs : Nat) : Int) := by rw [wrap_i64 (by omega) (by omega)]; omega
        refine Rgf (jn6 @e0 @e7 @e6 @e8 @e2 @kw) (fun E K hE hK => ?_)
        refine CallR.use (symMerge_ok hg _ p u v s hh _ id ver L cap p.length (p.length + bs) (p.length + 2 * bs) T rfl (by rintro rfl; simp only [List.length_nil] at lu; omega) (by rintro rfl; simp only [List.length_nil] at lv; omega) d0 d1 (show id < b + 0 by omega) (by omega) rfl (by omega) (by omega) hn hb1 hT) body_135 ?_
        rintro _ _ ⟨rfl, q, g1, g2, g3, rfl⟩
        refine Ev ?_
        refine hK _ _ _ ?_; clear hE hK K E
        have kx : IntKind.i64.wrap (((p.length + 2 * bs : Nat) : Int) + ((2 * bs : Nat) : Int)) = ((p.length + 2 * bs + 2 * bs : Nat) : Int) := by rw [wrap_i64 (by omega) (by omega)]; omega
        refine Rkf @e8 ?_
        refine Raf (jn4 @e8 @e6 @k2 @kx) (fun E K hE hK => ?_); refine hK _ _ _ ?_; clear hE hK K E
        have hpq : (p ++ q).length = p.length + 2 * bs := by rw [List.length_append, g3, List.length_append]; omega
        exact ⟨s.length, by simp only [List.length_append]; omega, p ++ q, s, j + 1, rfl, by rw [hpq, hp, Nat.mul_succ], hpre.snoc hp g1, d2, hfe.trans (by rw [List.append_assoc, ← List.append_assoc u v s]; exact (FEq.refl _ _).app (g2.app (FEq.refl _ _))), by rw [hpq]; omega, by exact Ecf @e6, by rw [hpq]; exact Er, by rw [hpq]; exact Er,
          cutH_same (by omega) (by (first | (simp -implicitDefEqProofs only [go_sem, ↓reduceIte, Nat.reduceEqDiff, Nat.reduceAdd, Nat.reduceLT, Nat.reduceLeDiff, reduceCtorEq, Int.toNat_natCast, List.append_assoc]; first | done | rfl) | rfl)) (lowCs_app (lowCs_p _ _) hT), fun m hm hne => cutH_outS hlow (by refine Evf @hne ?_; exact ho m hm hne) hm, by refine Evf @e0 ?_; exact cutV_win hid, by exact Ecf @e1, by exact Ecf @e2⟩
      · refine Bff @hlt ?_
        refine AWP.exit ?_
        refine Ev ?_
        exact ⟨by exact Ecf @e6, p, r, j, hp, hpre, hpr, hfe, hlen, by omega, by exact Ecf @e7, hb1, ho, by exact Ecf @e0, by exact Ecf @e1, by exact Ecf @e2⟩
    clear hpre hfe hdl hb1 ho e0 e1 e2 e6
    rintro ⟨t, hh, n⟩ ⟨hn1, e6, p, r, j, hp, hpre, hpr, hfe, hlen, hrl, e7, hb1, ho, e0, e1, e2⟩
    simp only at hb1 ho e0 e1 e2 e6 e7 hn1
    subst hn1
    have kw : IntKind.i64.wrap ((p.length : Int) + (bs : Int)) = ((p.length + bs : Nat) : Int) := by rw [wrap_i64 (by omega) (by omega)]; omega
    have d0 := hpr 0
    rw [Nat.mul_zero, List.drop_zero] at d0
    refine AWP.mid (fun st => st.n = 0 ∧ st.t 6 = IntV (bs : Nat) ∧ ∃ d, Pre k (2 * bs) d ∧ FEq k x d ∧ d.length = L ∧ stS g h b id ver L cap T d st) ?_ ?_
    · refine Rkf (jn3 @e7 @e6 @kw) ?_
      by_cases hlt2 : ((p.length + bs : Nat) : Int) < (L : Nat)
      · refine Rkf (jn2 @e1 @hlt2) ?_
        refine Bt ?_
        have d1 := hpr 1
        rw [Nat.mul_one] at d1
        rw [List.take_of_length_le (by rw [List.length_drop]; omega)] at d1
        obtain ⟨u, hu⟩ : ∃ u, r.take bs = u := ⟨_, rfl⟩
        obtain ⟨v, hv⟩ : ∃ v, r.drop bs = v := ⟨_, rfl⟩
        have hr : r = u ++ v := by rw [← hu, ← hv, List.take_append_drop]
        have lu : u.length = bs := by rw [← hu, List.length_take]; omega
        have lv : v.length = r.length - bs := by rw [← hv, List.length_drop]
        rw [hu] at d0
        rw [hv] at d1
        clear hu hv hpr
        subst hr
        simp only [List.length_append] at hlen
        have hvp : 0 < v.length := by omega
        refine Raf (jn4 @e0 @e7 @e1 @e2) (fun E K hE hK => ?_)
        refine CallR.use (symMerge_ok hg _ p u v [] hh _ id ver L cap p.length (p.length + bs) L T rfl (by rintro rfl; simp only [List.length_nil] at lu; omega) (List.length_pos_iff.1 hvp) d0 d1 (show id < b + 0 by omega) (by simp; omega) rfl (by omega) (by omega) hn (by rw [hb1, List.append_nil]) hT) body_135 ?_
        rintro _ _ ⟨rfl, q, g1, g2, g3, rfl⟩
        refine Ev ?_
        refine hK _ _ _ ?_; clear hE hK K E
        exact ⟨rfl, by exact Ecf @e6, p ++ q, hpre.snoc hp g1, hfe.trans ((FEq.refl _ _).app g2), by rw [List.length_append, g3, List.length_append]; omega, by exact Er, fun k hk hne => by refine Evf @hne ?_; exact ho k hk hne, by exact Ecf @e0, by exact Ecf @e1, by exact Ecf @e2⟩
      · refine Rkf (jn2 @e1 @hlt2) ?_
        refine Bf ?_
        refine AWP.skip ?_
        rw [List.take_of_length_le (by omega)] at d0
        exact ⟨rfl, by exact Ecf @e6, p ++ r, hpre.snoc hp d0, hfe, by rw [List.length_append]; omega, hb1, ho, by exact Ecf @e0, by exact Ecf @e1, by exact Ecf @e2⟩
    clear hpre hfe hlen hpr hrl hp d0 hb1 ho e0 e1 e2 e6 e7 kw p r j
    rintro ⟨t, hh, n⟩ ⟨hn1, e6, d, hpre, hfe, hdl, hb1, ho, e0, e1, e2⟩
    simp only at hb1 ho e0 e1 e2 e6 hn1
    subst hn1
    refine Raf (jn2 @e6 @k3) (fun E K hE hK => ?_); refine hK _ _ _ ?_; clear hE hK K E
    exact ⟨L - 2 * bs, by omega, 2 * bs, d, rfl, by omega, by omega, hpre, hfe, hdl, by exact Er, cutH_same (by omega) hb1 (lowCs_app (lowCs_p _ _) hT), fun m hm hne => cutH_outS hlow (ho m hm hne) hm, by refine Evf @e0 ?_; exact cutV_win hid, by exact Ecf @e1, by exact Ecf @e2⟩
  · refine Bff @hlt ?_
    refine AWP.exit ?_
    refine Ev ?_
    have h0 := hpre 0
    rw [Nat.mul_zero, List.drop_zero, List.take_of_length_le (by omega)] at h0
    exact fin _ _ _ d h0 hfe (by omega) hb1 ho

theorem sortStable_ok {g : FuncId} {k : Fl → Int} (hg : CmpOk g k) (x : List Fl) (h : Heap) (b id ver L cap : Nat) (T : List Cell) (hid : id < b) (hL : L = x.length) (hn : L ≤ 1000000)
    (hb : h id = some (rowB ver (x.map encF) T)) (hT : lowCs b T = true) :
    ACalls Tryd.prog 91 [.one (.win id ver 0 L cap), .one (.clo (.func g) [] [])] h b 0 (StR k x h id ver T) := by
  refine ACalls.enter Tryd.func91 rfl (by simp [Tryd.ntmps91]) (fun ι w hnn H => ?_)
  refine Ra (fun E K hE hK => ?_)
  refine ⟨by simp [hb, rowB], ?_⟩
  refine CallR.use (stable_ok hg x h _ id ver L cap T (show id < b + 0 by omega) hL hn hb hT) body_117 ?_
  rintro _ _ ⟨rfl, q, g1, g2, g3, rfl⟩
  refine Ev ?_
  refine hK _ _ _ ?_; clear hE hK K E
  exact Ends.turn hnn H hid (blk := rowB ver (q.map encF) T) (fun _ _ => rfl) (lowCs_app (lowCs_p _ _) hT) (r0 := .tup []) rfl (frz_tup0 _ _) ⟨rfl, q, g1, g2, g3, rfl⟩
end Go.Proofs.YtengjcdilnikhaaDoor
