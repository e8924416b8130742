/-
  Part 6 of the proof of modelSnap_card: steps of the machine, walks and plain laws; each holds under the conditions that it states.
-/
import Derived.Test.YtihgnpboabpchaaGreatDoorMdB4
import Derived.Test.YtihgnpboabpchaaGreatDoorMdB5

namespace Go.Proofs.YtihgnpboabpchaaGreatDoor
set_option linter.unusedSimpArgs false
set_option linter.unusedVariables false
set_option linter.unnecessarySimpa false
open Go Am
theorem app_kn {C : Ctx} {h : Heap} {n : Nat} {K : KT} {id ver cap len m : Nat} {es fs : List (List PD)} {x : AV} (hr : RowAt h id ver cap 3 es) (hes : okEs 3 es) (hfs : okEs 3 fs) (hx : srcA h 3 x = some (m, fs.flatten.map .p)) (hlen : len = es.length) (hm : m = fs.length) (hl : len + m ≤ 1000000)
    (k : ∀ cap' T', (es ++ fs).length * 3 + T'.length = cap' * 3 → lowCs 0 T' = true → K (.one (.win id (ver + 1) 0 (len + m) cap')) (upd h id (rowB (ver + 1) (es ++ fs) T')) n) :
    BiK Tryz.prog C .append [26, 26] [.one (.win id ver 0 len cap), x] h n K := by
  obtain ⟨T, h1, h3, h4⟩ := hr
  have hfl := okEs_len hes
  refine BiK.append_own (e := 99) (sz := 3) (bytes := 48) (m := m) (xs := fs.flatten.map .p) (blk := rowB ver es T) ty_slE_26 ty_tsz_99 ty_tzero_99 rfl ty_tby_99 ty_isIntT_26 h1 rfl
    (by rw [rowB]; simp only [List.length_append, List.length_map, hfl]; omega) hx (okEs_flat hfs _) (by omega) (by decide) (by omega) (fun cap' j q1 q2 => ?_)
  have e := row_push (sz := 3) (ver := ver + 1) (len := len) (es := es) (fs := fs) (T := T) hes hlen j
  rw [show (rowB ver es T).cells = es.flatten.map .p ++ T from rfl, e]
  exact k cap' _ (by rw [List.length_replicate, List.length_append]; omega) (lowCs_junk _ _)
end Go.Proofs.YtihgnpboabpchaaGreatDoor
namespace Go.Proofs.YtihgnpboabpchaaGreatDoor
set_option linter.unusedSimpArgs false
set_option linter.unusedVariables false
set_option linter.unnecessarySimpa false
open Go Am
set_option maxRecDepth 100000
def sameG (a c : Gs) : Bool := decide (a.kind = c.kind) && (sameW a.base c.base && (sameW a.now c.now && (decide (a.writes = c.writes) && (decide (a.names = c.names) && decide (a.dirs = c.dirs)))))
theorem sameG_refl (a : Gs) : sameG a a = true := by simp [sameG, sameW_refl]
theorem mguest_ok (a c : Gs) (ha1 : a.base.l.length ≤ 1000000) (ha2 : a.now.l.length ≤ 1000000) (ha3 : a.writes.length ≤ 1000000) (ha4 : a.names.length ≤ 1000000) (ha5 : a.dirs.length ≤ 1000000) (h : Heap) (b : Nat) : ACalls Tryz.prog 53 [GsV a, GsV c] h b 0 (fun r h' => r = BoolV (sameG a c) ∧ h' = h) := by
  refine ACalls.enter Tryz.func53 rfl (by simp [Tryz.ntmps53]) (fun ι w hn H => ?_)
  have fin : ∀ (t : Nat → AV) (hh : Heap) (n : Nat) (v : Bool), t 4 = BoolV v → (∀ id, id < b → hh id = h id) → v = sameG a c → Am.Ends Tryz.prog ⟨Tryz.f53.ntmps, b, ι, h, w, x0⟩ Tryz.f53 0 (fun r h' => r = BoolV (sameG a c) ∧ h' = h) ⟨t, hh, n⟩ := by
    intro t hh n v ht ho hv
    exact Ends.pure hn H ho (r0 := BoolV v) (by rw [show Tryz.f53.results.toList = [.tmp 4] from rfl]; exact Ecf @ht) (.v _) ⟨by rw [hv], rfl⟩
  refine Rk ?_
  by_cases c0 : a.kind = c.kind
  case neg =>
    have d0 : (a.kind = c.kind) = False := eq_false c0
    refine Rkf @d0 ?_
    refine AWP.ret ?_
    exact fin _ _ _ false (by exact Er) Ou (by simp [sameG, c0])
  have d0 : (a.kind = c.kind) = True := eq_true c0
  cases c1 : sameW a.base c.base
  case false =>
    refine Rgf @d0 (fun E K hE hK => ?_)
    refine Us (mview_ok a.base c.base ha1 _ _) body_51 ?_
    refine Evf @c1 ?_
    refine hK _ _ _ ?_; clear hE hK K E
    refine AWP.ret ?_
    exact fin _ _ _ false (by exact Er) Ou (by simp [sameG, c1])
  cases c2 : sameW a.now c.now
  case false =>
    refine Rgf @d0 (fun E K hE hK => ?_)
    refine Us (mview_ok a.base c.base ha1 _ _) body_51 ?_
    refine Evf @c1 ?_
    refine Us (mview_ok a.now c.now ha2 _ _) body_51 ?_
    refine Evf @c2 ?_
    refine hK _ _ _ ?_; clear hE hK K E
    refine AWP.ret ?_
    exact fin _ _ _ false (by exact Er) Ou (by simp [sameG, c2])
  cases c3 : decide (a.writes = c.writes)
  case false =>
    refine Rgf @d0 (fun E K hE hK => ?_)
    refine Us (mview_ok a.base c.base ha1 _ _) body_51 ?_
    refine Evf @c1 ?_
    refine Us (mview_ok a.now c.now ha2 _ _) body_51 ?_
    refine Evf @c2 ?_
    refine Us (strEq_ok a.writes c.writes ha3 _ _) body_50 ?_
    refine Evf @c3 ?_
    refine hK _ _ _ ?_; clear hE hK K E
    refine AWP.ret ?_
    exact fin _ _ _ false (by exact Er) Ou (by simp [sameG, of_decide_eq_false c3])
  cases c4 : decide (a.names = c.names)
  case false =>
    refine Rgf @d0 (fun E K hE hK => ?_)
    refine Us (mview_ok a.base c.base ha1 _ _) body_51 ?_
    refine Evf @c1 ?_
    refine Us (mview_ok a.now c.now ha2 _ _) body_51 ?_
    refine Evf @c2 ?_
    refine Us (strEq_ok a.writes c.writes ha3 _ _) body_50 ?_
    refine Evf @c3 ?_
    refine Us (strEq_ok a.names c.names ha4 _ _) body_50 ?_
    refine Evf @c4 ?_
    refine hK _ _ _ ?_; clear hE hK K E
    refine AWP.ret ?_
    exact fin _ _ _ false (by exact Er) Ou (by simp [sameG, of_decide_eq_false c4])
  cases c5 : decide (a.dirs = c.dirs)
  case false =>
    refine Rgf @d0 (fun E K hE hK => ?_)
    refine Us (mview_ok a.base c.base ha1 _ _) body_51 ?_
    refine Evf @c1 ?_
    refine Us (mview_ok a.now c.now ha2 _ _) body_51 ?_
    refine Evf @c2 ?_
    refine Us (strEq_ok a.writes c.writes ha3 _ _) body_50 ?_
    refine Evf @c3 ?_
    refine Us (strEq_ok a.names c.names ha4 _ _) body_50 ?_
    refine Evf @c4 ?_
    refine Us (strEq_ok a.dirs c.dirs ha5 _ _) body_50 ?_
    refine Evf @c5 ?_
    refine hK _ _ _ ?_; clear hE hK K E
    refine AWP.ret ?_
    exact fin _ _ _ false (by exact Er) Ou (by simp [sameG, of_decide_eq_false c5])
  refine Rgf @d0 (fun E K hE hK => ?_)
  refine Us (mview_ok a.base c.base ha1 _ _) body_51 ?_
  refine Evf @c1 ?_
  refine Us (mview_ok a.now c.now ha2 _ _) body_51 ?_
  refine Evf @c2 ?_
  refine Us (strEq_ok a.writes c.writes ha3 _ _) body_50 ?_
  refine Evf @c3 ?_
  refine Us (strEq_ok a.names c.names ha4 _ _) body_50 ?_
  refine Evf @c4 ?_
  refine Us (strEq_ok a.dirs c.dirs ha5 _ _) body_50 ?_
  refine Evf @c5 ?_
  refine hK _ _ _ ?_; clear hE hK K E
  refine AWP.ret ?_
  exact fin _ _ _ true (by exact Er) Ou (by simp [sameG, c0, c1, c2, of_decide_eq_true c3, of_decide_eq_true c4, of_decide_eq_true c5])
end Go.Proofs.YtihgnpboabpchaaGreatDoor
namespace Go.Proofs.YtihgnpboabpchaaGreatDoor
set_option linter.unusedSimpArgs false
set_option linter.unusedVariables false
set_option linter.unnecessarySimpa false
open Go Am
set_option maxRecDepth 100000
theorem h00c : (0 : Int) = 0 := rfl
theorem mfits_ok (v : Vw) (many : Nat) (hr : Ris nmK v.l) (hc : ∀ x ∈ v.l, chkN x.name = 0) (hd : ∀ x ∈ v.l, x.data.length ≤ 65536) (hg : 1 ≤ v.gen ∧ v.gen ≤ 1099511627776) (hm : v.l.length ≤ many) (hm2 : many ≤ 100000) (h : Heap) (b : Nat) :
    ACalls Tryz.prog 44 [VwV v, IntV many] h b 0 (fun r h' => r = BoolV true ∧ h' = h) := by
  refine ACalls.enter Tryz.func44 rfl (by simp [Tryz.ntmps44]) (fun ι w hn H => ?_)
  have hlow := H.lowCells
  have hlm : (v.l.map encK).length = v.l.length := List.length_map _
  have fin : ∀ (t : Nat → AV) (hh : Heap) (n : Nat), t 4 = BoolV true → (∀ id, id < b → hh id = h id) → Am.Ends Tryz.prog ⟨Tryz.f44.ntmps, b, ι, h, w, x0⟩ Tryz.f44 0 (fun r h' => r = BoolV true ∧ h' = h) ⟨t, hh, n⟩ := by
    intro t hh n ht ho
    exact Ends.pure hn H ho (r0 := BoolV true) (by rw [show Tryz.f44.results.toList = [.tmp 4] from rfl]; exact Ecf @ht) (.v _) ⟨rfl, rfl⟩
  refine Rk ?_
  refine AWP.seq ?_
  refine Rkf @hlm ?_
  refine AWP.block ?_
  refine AWP.loopM 1 (fun k st => ∃ i, i ≤ v.l.length ∧ k = v.l.length - i ∧ (∀ id, id < b → st.h id = h id) ∧ st.h b = some ⟨0, (encV v).map .p⟩ ∧ st.t 1 = IntV many ∧ st.t 2 = .one (.ptr b 0 0) ∧ st.t 8 = KnsV v.l ∧ st.t 9 = IntV v.l.length ∧ st.t 10 = IntV (i : Nat)) v.l.length rfl ⟨0, Nat.zero_le _, rfl, Ou, by exact Er, by exact Er, by exact Er, by exact Er, by exact Er, by exact Er⟩ ?_
  rintro k ⟨t, hh, n⟩ ⟨i, hi, rfl, ho, hB, e1, e2, e8, e9, e10⟩ hn1
  simp only at ho hB e1 e2 e8 e9 e10 hn1
  subst hn1
  refine Rkf (jn2 @e9 @e10) ?_
  refine AWP.seq ?_
  by_cases hlt : (i : Int) < v.l.length
  · have hw1 : IntKind.i64.wrap ((i : Int) + 1) = ((i + 1 : Nat) : Int) := by rw [wrap_i64 (by omega) (by omega)]; rfl
    have hi2 : i < v.l.length := by omega
    have hge := encK_getD v.l i hi2
    obtain ⟨d, hd'⟩ : ∃ d, v.l[i] = d := ⟨_, rfl⟩
    have hdm : d ∈ v.l := by rw [← hd']; exact List.getElem_mem hi2
    rw [hd'] at hge
    have hck : chkN (bl (mkS d.name)) = 0 := by show chkN (mkS d.name).data.toList = 0; rw [mkS_list]; exact hc d hdm
    have hdl : ¬ (65536 : Int) < d.data.length := by have := hd d hdm; omega
    have hdm2 : (d.data.map encO).length = d.data.length := List.length_map _
    refine Btf @hlt ?_
    refine AWP.skip ?_
    refine Ev ?_
    refine AWP.seq ?_
    refine AWP.block ?_
    refine Rgf (jn5 @e8 @e10 @hlm @hlt @hge) (fun E K hE hK => ?_)
    refine ⟨by omega, ?_⟩
    refine hK _ _ _ ?_; clear hE hK K E
    by_cases h0 : i = 0
    · have h0' : ¬ (0 : Int) < i := by omega
      refine AWP.seqRegDG [] [] [] mixed (drawF_ok (by kernel_rfl)) (by kernel_rfl) (fun K hK => ?_); simp -implicitDefEqProofs only [go_sem, ↓reduceIte, Nat.reduceEqDiff, Nat.reduceAdd, Nat.reduceLT, Nat.reduceLeDiff, reduceCtorEq, Int.toNat_natCast, h0', e2, e10, hB]
      refine Ud (Check_ok (mkS d.name) _ _) body_31 ?_
      try (refine Evf (jn2 @hck @h00c) ?_)
      repeat (first | (refine Gdf 19 (jn6 @h0' @e2 @e10 @hB @hdm2 @hdl) ?_) | (refine Gdf 25 (jn6 @h0' @e2 @e10 @hB @hdm2 @hdl) ?_) | (refine Gdf 28 (jn4 @h0' @e2 @e10 @hB) ?_) | (refine ⟨by omega, ?_⟩))
      refine hK _ _ _ ?_; clear hK K
      refine Bf ?_
      refine AWP.skip ?_
      refine Ev ?_
      refine Raf (jn2 @e10 @hw1) (fun E K hE hK => ?_); refine hK _ _ _ ?_; clear hE hK K E
      exact ⟨(by decide : 1 ≤ 2), v.l.length - (i + 1), by omega, i + 1, by omega, rfl, cutH_outer (Nat.le_succ _) (Ouf @ho) hlow, cutH_same (Nat.lt_succ_self _) (by exact Erf @hB) (by simp [lowCs, lowC]), by exact Ecf @e1, by refine Evf @e2 ?_; exact cutV_ptr (Nat.lt_succ_self _), by exact Ecf @e8, by exact Ecf @e9, by exact Er⟩
    have h0' : (0 : Int) < i := by omega
    have hi3 : i - 1 < v.l.length := by omega
    have hge2 := encK_getD v.l (i - 1) hi3
    have hwm : IntKind.i64.wrap ((i : Int) - 1) = ((i - 1 : Nat) : Int) := by rw [wrap_i64 (by omega) (by omega)]; omega
    have hlt2 : ((i - 1 : Nat) : Int) < v.l.length := by omega
    obtain ⟨g, hgg⟩ : ∃ g, v.l[i - 1] = g := ⟨_, rfl⟩
    rw [hgg] at hge2
    have hgm : g ∈ v.l := by rw [← hgg]; exact List.getElem_mem hi3
    have hcm : ¬ (0 : Int) ≤ cmpF g.name d.name := by
      have := List.pairwise_iff_getElem.1 hr (i - 1) i hi3 hi2 (by omega)
      rw [hgg, hd'] at this
      exact Int.not_le.2 this
    refine AWP.seqRegDG [] [] [] mixed (drawF_ok (by kernel_rfl)) (by kernel_rfl) (fun K hK => ?_); simp -implicitDefEqProofs only [go_sem, ↓reduceIte, Nat.reduceEqDiff, Nat.reduceAdd, Nat.reduceLT, Nat.reduceLeDiff, reduceCtorEq, Int.toNat_natCast, h0', e2, e10, hB, hlm, hwm, hlt2, hge2]
    refine Ud (Check_ok (mkS d.name) _ _) body_31 ?_
    try (refine Evf (jn2 @hck @h00c) ?_)
    repeat (first | (refine Gdf 19 (jn4 @h0' @e2 @e10 (jn7 @hB @hdm2 @hdl @hlm @hwm @hlt2 @hge2)) ?_) | (refine Gdf 25 (jn4 @h0' @e2 @e10 (jn7 @hB @hdm2 @hdl @hlm @hwm @hlt2 @hge2)) ?_) | (refine Gdf 28 (jn2 @h0' (jn7 @e2 @e10 @hB @hlm @hwm @hlt2 @hge2)) ?_) | (refine ⟨by omega, ?_⟩))
    refine Ud (orderM_ok g d.name (.inr (hc g hgm)) (.inr (hc d hdm)) _ _) body_101 ?_
    try (refine Evf @hcm ?_)
    repeat (first | (refine Gdf 19 (jn5 @h0' @e2 @e10 @hB (jn7 @hdm2 @hdl @hlm @hwm @hlt2 @hge2 @hcm)) ?_) | (refine Gdf 25 (jn5 @h0' @e2 @e10 @hB (jn7 @hdm2 @hdl @hlm @hwm @hlt2 @hge2 @hcm)) ?_) | (refine Gdf 28 (jn3 @h0' @e2 (jn7 @e10 @hB @hlm @hwm @hlt2 @hge2 @hcm)) ?_) | (refine ⟨by omega, ?_⟩))
    refine hK _ _ _ ?_; clear hK K
    refine Bf ?_
    refine AWP.skip ?_
    refine Ev ?_
    refine Raf (jn2 @e10 @hw1) (fun E K hE hK => ?_); refine hK _ _ _ ?_; clear hE hK K E
    exact ⟨(by decide : 1 ≤ 2), v.l.length - (i + 1), by omega, i + 1, by omega, rfl, cutH_outer (Nat.le_succ _) (Ouf @ho) hlow, cutH_same (Nat.lt_succ_self _) (by exact Erf @hB) (by simp [lowCs, lowC]), by exact Ecf @e1, by refine Evf @e2 ?_; exact cutV_ptr (Nat.lt_succ_self _), by exact Ecf @e8, by exact Ecf @e9, by exact Er⟩
  · refine Bff @hlt ?_
    refine AWP.exit ?_
    refine Ev ?_
    have g1 : (1 : Int) ≤ v.gen := hg.1
    have g2 : v.gen ≤ 1099511627776 := hg.2
    have g3 : (v.l.length : Int) ≤ many := by omega
    refine Rkf (jn7 @e1 @e2 @hB @hlm @g1 @g2 @g3) ?_
    refine AWP.ret ?_
    exact fin _ _ _ (by exact Er) (Ouf @ho)
def apartX (u v : Vw) (p : S) : Bool := match getV u p, getV v p with
  | none, none => false
  | some a, some c => !sameK a c
  | _, _ => true
theorem mapart_ok (u v : Vw) (p : S) (hr1 : Ris nmK u.l) (hl1 : u.l.length ≤ 1000000) (hc1 : ∀ x ∈ u.l, chkN x.name = 0) (hr2 : Ris nmK v.l) (hl2 : v.l.length ≤ 1000000) (hc2 : ∀ x ∈ v.l, chkN x.name = 0) (hp : okF p) (h : Heap) (b : Nat) :
    ACalls Tryz.prog 99 [VwV u, VwV v, StrV p] h b 0 (fun r h' => r = BoolV (apartX u v p) ∧ h' = h) := by
  refine ACalls.enter Tryz.func99 rfl (by simp [Tryz.ntmps99]) (fun ι w hn H => ?_)
  have hm1 : (u.l.map encK).length = u.l.length := List.length_map _
  have hm2 : (v.l.map encK).length = v.l.length := List.length_map _
  have fin : ∀ (t : Nat → AV) (hh : Heap) (n : Nat) (x : Bool), t 6 = BoolV x → (∀ id, id < b → hh id = h id) → x = apartX u v p → Am.Ends Tryz.prog ⟨Tryz.f99.ntmps, b, ι, h, w, x0⟩ Tryz.f99 0 (fun r h' => r = BoolV (apartX u v p) ∧ h' = h) ⟨t, hh, n⟩ := by
    intro t hh n x ht ho hx
    exact Ends.pure hn H ho (r0 := BoolV x) (by rw [show Tryz.f99.results.toList = [.tmp 6] from rfl]; exact Ecf @ht) (.v _) ⟨by rw [hx], rfl⟩
  refine Rk ?_
  refine Rg (fun E K hE hK => ?_)
  refine Us (kFind_ok u.l p hr1 hl1 hc1 hp _ _) body_149 ?_
  refine hK _ _ _ ?_; clear hE hK K E
  refine Rg (fun E K hE hK => ?_)
  refine Us (kFind_ok v.l p hr2 hl2 hc2 hp _ _) body_149 ?_
  refine hK _ _ _ ?_; clear hE hK K E
  cases h1 : getV u p with
  | none =>
    cases h2 : getV v p with
    | none =>
      refine AWP.seqRegDG [] [] [] mixed (drawF_ok (by kernel_rfl)) (by kernel_rfl) (fun K hK => ?_); simp -implicitDefEqProofs only [go_sem, ↓reduceIte, Nat.reduceEqDiff, Nat.reduceAdd, Nat.reduceLT, Nat.reduceLeDiff, reduceCtorEq, Int.toNat_natCast, h1, h2, Option.isSome_none]
      repeat (first | (refine Gd 28 ?_) | (refine Gd 30 ?_) | (refine ⟨by omega, ?_⟩))
      refine hK _ _ _ ?_; clear hK K
      refine AWP.ret ?_
      exact fin _ _ _ false (by exact Er) Ou (by simp [apartX, h1, h2])
    | some c =>
      refine AWP.seqRegDG [] [] [] mixed (drawF_ok (by kernel_rfl)) (by kernel_rfl) (fun K hK => ?_); simp -implicitDefEqProofs only [go_sem, ↓reduceIte, Nat.reduceEqDiff, Nat.reduceAdd, Nat.reduceLT, Nat.reduceLeDiff, reduceCtorEq, Int.toNat_natCast, h1, h2, Option.isSome_none, Option.isSome_some]
      repeat (first | (refine Gd 28 ?_) | (refine Gd 30 ?_) | (refine ⟨by omega, ?_⟩))
      refine hK _ _ _ ?_; clear hK K
      refine AWP.ret ?_
      exact fin _ _ _ true (by exact Er) Ou (by simp [apartX, h1, h2])
  | some a =>
    cases h2 : getV v p with
    | none =>
      refine AWP.seqRegDG [] [] [] mixed (drawF_ok (by kernel_rfl)) (by kernel_rfl) (fun K hK => ?_); simp -implicitDefEqProofs only [go_sem, ↓reduceIte, Nat.reduceEqDiff, Nat.reduceAdd, Nat.reduceLT, Nat.reduceLeDiff, reduceCtorEq, Int.toNat_natCast, h1, h2, Option.isSome_none, Option.isSome_some]
      repeat (first | (refine Gd 28 ?_) | (refine Gd 30 ?_) | (refine ⟨by omega, ?_⟩))
      refine hK _ _ _ ?_; clear hK K
      refine AWP.ret ?_
      exact fin _ _ _ true (by exact Er) Ou (by simp [apartX, h1, h2])
    | some c =>
      obtain ⟨k1, k1e⟩ := atK hr1 h1
      obtain ⟨k2, k2e⟩ := atK hr2 h2
      have g1 := encK_getD u.l (posK nmK p u.l) k1
      have g2 := encK_getD v.l (posK nmK p v.l) k2
      rw [k1e] at g1
      rw [k2e] at g2
      have l1 : ((posK nmK p u.l : Nat) : Int) < u.l.length := by omega
      have l2 : ((posK nmK p v.l : Nat) : Int) < v.l.length := by omega
      refine AWP.seqRegDG [] [] [] mixed (drawF_ok (by kernel_rfl)) (by kernel_rfl) (fun K hK => ?_); simp -implicitDefEqProofs only [go_sem, ↓reduceIte, Nat.reduceEqDiff, Nat.reduceAdd, Nat.reduceLT, Nat.reduceLeDiff, reduceCtorEq, Int.toNat_natCast, h1, h2, Option.isSome_some, hm1, hm2, g1, g2, l1, l2]
      repeat (first | (refine Gdf 28 (jn6 @hm1 @hm2 @g1 @g2 @l1 @l2) ?_) | (refine Gdf 30 (jn6 @hm1 @hm2 @g1 @g2 @l1 @l2) ?_) | (refine ⟨by omega, ?_⟩))
      refine Ud (mone_ok a c _ _) body_107 ?_
      try (refine Ev ?_)
      repeat (first | (refine Gd 28 ?_) | (refine Gd 30 ?_) | (refine ⟨by omega, ?_⟩))
      refine hK _ _ _ ?_; clear hK K
      refine AWP.ret ?_
      exact fin _ _ _ (!sameK a c) (by exact Er) Ou (by simp [apartX, h1, h2])
end Go.Proofs.YtihgnpboabpchaaGreatDoor
namespace Go.Proofs.YtihgnpboabpchaaGreatDoor
set_option linter.unusedSimpArgs false
set_option linter.unusedVariables false
set_option linter.unnecessarySimpa false
open Go Am
set_option maxRecDepth 100000
theorem grow_kn_ok (n : Nat) (hnn : n ≤ 1000000) (h : Heap) (b : Nat) : ACalls Tryz.prog 148 [.one (.p (.v (.slice none 0 0))), IntV n] h b 1 (rowR 3 [] h b) := by
  refine ACalls.enter Tryz.func148 rfl (by simp [Tryz.ntmps148]) (fun ι w hn H => ?_)
  have h0 : ¬ ((n : Int) < 0) := by omega
  refine AWP.virt 0 (by exact Er) ?_
  refine Rk ?_
  refine AWP.seq ?_
  refine Rkf @h0 ?_
  refine Bs ?_
  refine AWP.seq ?_
  have hw0 : IntKind.i64.wrap (n : Int) = n := wrap_i64 (by omega) (by omega)
  have hz0 : IntKind.i64.wrap 0 = 0 := rfl
  have hwz : IntKind.i64.wrap ((n : Int) - IntKind.i64.wrap (((0 : Nat) : Int) - ((0 : Nat) : Int))) = n := by show IntKind.i64.wrap ((n : Int) - 0) = n; rw [Int.sub_zero, hw0]
  refine Rkf @hwz ?_
  by_cases hp : (0 : Int) < n
  · refine Rkf @hp ?_
    refine Bt ?_
    refine Ra (fun E K hE hK => ?_)
    refine ⟨by omega, ?_⟩
    refine BiR.of ?_
    refine BiK.append_mk (e := 99) (sz := 3) (bytes := 48) (zs := [.string ByteArray.empty, .float .f64 0, .slice none 0 0]) (xs := []) ty_slE_26 ty_tsz_99 ty_tzero_99 rfl ty_tby_99 ty_intK_3 (by exact Er) (by simp [srcA, upd_same]) (by omega) (by omega) (by decide) (by omega) (fun cap' r h1 h2 => ?_)
    have e1 : (⟨0, [] ++ (repl ([Value.string ByteArray.empty, .float .f64 0, .slice none 0 0].map fun v => Cell.p (.v v)) n ++ List.replicate r .junk)⟩ : Blk) = ⟨0, repl ([Value.string ByteArray.empty, .float .f64 0, .slice none 0 0].map fun v => Cell.p (.v v)) n ++ List.replicate r .junk⟩ := rfl
    rw [e1]
    have hTl : (repl ([Value.string ByteArray.empty, .float .f64 0, .slice none 0 0].map fun v => Cell.p (.v v)) n ++ List.replicate r Cell.junk).length = cap' * 3 := by
      rw [List.length_append, repl_length, List.length_replicate]; simp; omega
    have hTlow : lowCs 0 (repl ([Value.string ByteArray.empty, .float .f64 0, .slice none 0 0].map fun v => Cell.p (.v v)) n ++ List.replicate r Cell.junk) = true := lowCs_app (lowCs_repl rfl _) (lowCs_junk _ _)
    generalize repl ([Value.string ByteArray.empty, .float .f64 0, .slice none 0 0].map fun v => Cell.p (.v v)) n ++ List.replicate r Cell.junk = T at hTl hTlow ⊢
    refine Ev ?_
    refine ⟨by omega, ?_⟩
    refine hK _ _ _ ?_; clear hE hK K E
    refine Rk ?_
    refine AWP.ret ?_
    refine Ends.row (id := b + 1) (blk := ⟨0, T⟩) hn H Ou (Nat.le_succ _) (by exact Er) (lowCs_mono (Nat.zero_le _) hTlow) (r0 := .one (.win (b + 1) 0 0 0 cap')) (by rw [show Tryz.f148.results.toList = [.tmp 4] from rfl]; exact Er) (.one renC_win0) ⟨0, cap', T, Nat.zero_le _, by rw [hTl]; simp, hTlow, rfl, rfl⟩
  · refine Rkf @hp ?_
    refine Bs ?_
    refine Rk ?_
    refine AWP.ret ?_
    refine Ends.row (id := b) (blk := ⟨0, []⟩) hn H Ou (Nat.le_refl _) (by exact Er) rfl (r0 := .one (.win b 0 0 0 0)) (by rw [show Tryz.f148.results.toList = [.tmp 4] from rfl]; exact Er) (.one renC_win0) ⟨0, 0, [], Nat.le_refl _, rfl, rfl, rfl, rfl⟩
theorem concat_kn_ok (l m : List Kn) (hl : l.length ≤ 100000) (hm : m.length ≤ 100000) (h : Heap) (b X : Nat) (hX : X < b) (hb : h X = some ⟨0, [.p (.sl 3 (l.map encK)), .p (.sl 3 (m.map encK))]⟩) :
    ACalls Tryz.prog 98 [.one (.win X 0 0 2 2)] h b 1 (rowR 3 ((l ++ m).map encK) h b) := by
  refine ACalls.enter Tryz.func98 rfl (by simp [Tryz.ntmps98]) (fun ι w hn H => ?_)
  have hlow := H.lowCells
  have hlm : (l.map encK).length = l.length := List.length_map _
  have hmm : (m.map encK).length = m.length := List.length_map _
  have c02 : ((0 : Int) < 2) = True := by decide
  have c12 : ((1 : Int) < 2) = True := by decide
  have c22 : ((2 : Int) < 2) = False := by decide
  have t0 : Int.toNat 0 * 1 = 0 := rfl
  have t1 : Int.toNat 1 * 1 = 1 := rfl
  have k1 : IntKind.i64.wrap ((0 : Int) + 1) = 1 := rfl
  have k2 : IntKind.i64.wrap ((1 : Int) + 1) = 2 := rfl
  have w1 : IntKind.i64.wrap ((0 : Int) + l.length) = l.length := by rw [Int.zero_add, wrap_i64 (by omega) (by omega)]
  have w2 : IntKind.i64.wrap ((l.length : Int) + m.length) = ((l.length + m.length : Nat) : Int) := by rw [wrap_i64 (by omega) (by omega)]; omega
  have n1 : ¬ ((l.length : Int) < 0) := by omega
  have n2 : ¬ (((l.length + m.length : Nat) : Int) < 0) := by omega
  refine Rk ?_
  refine Rk ?_
  refine AWP.seq ?_
  refine Rkf @hb ?_
  refine AWP.block ?_
  refine AWP.loopM 0 (fun k st => (∀ id, id < b → st.h id = h id) ∧ st.t 0 = .one (.win X 0 0 2 2) ∧ st.t 9 = .one (.win X 0 0 2 2) ∧ st.t 10 = IntV 2 ∧ ((k = 2 ∧ st.t 11 = IntV 0 ∧ st.t 3 = IntV 0) ∨ (k = 1 ∧ st.t 11 = IntV 1 ∧ st.t 3 = IntV l.length) ∨ (k = 0 ∧ st.t 11 = IntV 2 ∧ st.t 3 = IntV ((l.length + m.length : Nat) : Int)))) 2 rfl ⟨Ou, by exact Er, by exact Er, by exact Er, .inl ⟨rfl, by exact Er, by exact Er⟩⟩ ?_
  rintro k ⟨t, hh, n⟩ ⟨ho, e0, e9, e10, hcase⟩ hn1
  simp only at ho e0 e9 e10 hcase hn1
  subst hn1
  have hbX : hh X = some ⟨0, [.p (.sl 3 (l.map encK)), .p (.sl 3 (m.map encK))]⟩ := (ho X hX).trans hb
  rcases hcase with ⟨rfl, e11, e3⟩ | ⟨rfl, e11, e3⟩ | ⟨rfl, e11, e3⟩
  · refine Rkf (jn3 @e10 @e11 @c02) ?_
    refine AWP.seq ?_
    refine Bt ?_
    refine AWP.skip ?_
    refine Ev ?_
    refine AWP.seq ?_
    refine AWP.block ?_
    refine AWP.seqReg (by kernel_rfl) (fun E K hE hK => ?_); simp -implicitDefEqProofs only [go_sem, ↓reduceIte, Nat.reduceEqDiff, Nat.reduceAdd, Nat.reduceLT, Nat.reduceLeDiff, reduceCtorEq, Int.toNat_natCast, e9, e11, hbX, t0, t1, List.getElem?_cons_zero, List.getElem?_cons_succ, Option.map_some]
    refine ⟨by decide, ?_⟩
    refine hK _ _ _ ?_; clear hE hK K E
    refine Rkf (jn3 @e3 @hlm @w1) ?_
    refine Rkf @n1 ?_
    refine Bf ?_
    refine AWP.skip ?_
    refine Ev ?_
    refine Raf (jn2 @e11 @k1) (fun E K hE hK => ?_); refine hK _ _ _ ?_; clear hE hK K E
    exact ⟨1, by decide, cutH_outer (Nat.le_refl _) (Ouf @ho) hlow, by refine Evf @e0 ?_; exact cutV_win hX, by refine Evf @e9 ?_; exact cutV_win hX, by exact Ecf @e10, .inr (.inl ⟨rfl, by exact Er, by exact Er⟩)⟩
  · refine Rkf (jn3 @e10 @e11 @c12) ?_
    refine AWP.seq ?_
    refine Bt ?_
    refine AWP.skip ?_
    refine Ev ?_
    refine AWP.seq ?_
    refine AWP.block ?_
    refine AWP.seqReg (by kernel_rfl) (fun E K hE hK => ?_); simp -implicitDefEqProofs only [go_sem, ↓reduceIte, Nat.reduceEqDiff, Nat.reduceAdd, Nat.reduceLT, Nat.reduceLeDiff, reduceCtorEq, Int.toNat_natCast, e9, e11, hbX, t0, t1, List.getElem?_cons_zero, List.getElem?_cons_succ, Option.map_some]
    refine ⟨by decide, ?_⟩
    refine hK _ _ _ ?_; clear hE hK K E
    refine Rkf (jn3 @e3 @hmm @w2) ?_
    refine Rkf @n2 ?_
    refine Bf ?_
    refine AWP.skip ?_
    refine Ev ?_
    refine Raf (jn2 @e11 @k2) (fun E K hE hK => ?_); refine hK _ _ _ ?_; clear hE hK K E
    exact ⟨0, by decide, cutH_outer (Nat.le_refl _) (Ouf @ho) hlow, by refine Evf @e0 ?_; exact cutV_win hX, by refine Evf @e9 ?_; exact cutV_win hX, by exact Ecf @e10, .inr (.inr ⟨rfl, by exact Er, by exact Er⟩)⟩
  · refine Rkf (jn3 @e10 @e11 @c22) ?_
    refine AWP.seq ?_
    refine Bf ?_
    refine AWP.exit ?_
    refine Ev ?_
    refine Rgf @e3 (fun E K hE hK => ?_)
    refine CallR.use (grow_kn_ok (l.length + m.length) (by omega) _ _) body_148 ?_
    rintro _ _ ⟨ver, cap, T, g1, g2, g3, rfl, rfl⟩
    refine Ev ?_
    refine hK _ _ _ ?_; clear hE hK K E
    refine AWP.seq ?_
    refine Rkf (jn3 @e0 @hbX (show ¬ X = b by omega)) ?_
    refine AWP.block ?_
    refine AWP.loopM 1 (fun k st => (∀ id, id < b → st.h id = h id) ∧ st.t 25 = .one (.win X 0 0 2 2) ∧ st.t 26 = IntV 2 ∧ ∃ ver cap, ((k = 2 ∧ st.t 27 = IntV 0 ∧ st.t 6 = .one (.win b ver 0 0 cap) ∧ RowAt st.h b ver cap 3 (([] : List Kn).map encK)) ∨ (k = 1 ∧ st.t 27 = IntV 1 ∧ st.t 6 = .one (.win b ver 0 l.length cap) ∧ RowAt st.h b ver cap 3 (l.map encK)) ∨ (k = 0 ∧ st.t 27 = IntV 2 ∧ st.t 6 = .one (.win b ver 0 (l.length + m.length) cap) ∧ RowAt st.h b ver cap 3 ((l ++ m).map encK)))) 2 rfl ⟨(Ouf @ho), by exact Er, by exact Er, ver, cap, .inl ⟨rfl, by exact Er, by exact Er, T, upd_same _ _ _, by rw [g2]; rfl, g3⟩⟩ ?_
    clear ho e0 e9 e10 e11 e3 hbX g1 g2 g3
    rintro k ⟨t, hh, n⟩ ⟨ho, e25, e26, ver, cap, hcase⟩ hn1
    simp only at ho e25 e26 hcase hn1
    subst hn1
    have hbX : hh X = some ⟨0, [.p (.sl 3 (l.map encK)), .p (.sl 3 (m.map encK))]⟩ := (ho X hX).trans hb
    rcases hcase with ⟨rfl, e27, e6, hrow⟩ | ⟨rfl, e27, e6, hrow⟩ | ⟨rfl, e27, e6, hrow⟩
    · refine Rkf (jn3 @e26 @e27 @c02) ?_
      refine AWP.seq ?_
      refine Bt ?_
      refine AWP.skip ?_
      refine Ev ?_
      refine AWP.seq ?_
      refine AWP.block ?_
      refine AWP.seqReg (by kernel_rfl) (fun E K hE hK => ?_); simp -implicitDefEqProofs only [go_sem, ↓reduceIte, Nat.reduceEqDiff, Nat.reduceAdd, Nat.reduceLT, Nat.reduceLeDiff, reduceCtorEq, Int.toNat_natCast, e25, e27, hbX, t0, t1, List.getElem?_cons_zero, List.getElem?_cons_succ, Option.map_some]
      refine ⟨by decide, ?_⟩
      refine hK _ _ _ ?_; clear hE hK K E
      refine Raf @e6 (fun E K hE hK => ?_)
      refine BiR.of ?_
      refine app_kn (m := l.length) (es := [].map encK) (fs := l.map encK) hrow (okEs_kn _) (okEs_kn _) (by simp [srcA]) (by simp) (by simp) (by omega) (fun cap' T' q1 q2 => ?_)
      refine Ev ?_
      refine hK _ _ _ ?_; clear hE hK K E
      refine Raf (jn2 @e27 @k1) (fun E K hE hK => ?_); refine hK _ _ _ ?_; clear hE hK K E
      exact ⟨Nat.le_refl _, 1, by decide, cutH_outer (Nat.le_succ _) (Ouf @ho) hlow, by refine Evf @e25 ?_; exact cutV_win (Nat.lt_succ_of_lt hX), by exact Ecf @e26, ver + 1, cap', .inr (.inl ⟨rfl, by exact Er, by refine Ev ?_; exact cutV_win (Nat.lt_succ_self _), (RowAt.new (by simpa using q1) q2).cut (Nat.lt_succ_self _)⟩)⟩
    · refine Rkf (jn3 @e26 @e27 @c12) ?_
      refine AWP.seq ?_
      refine Bt ?_
      refine AWP.skip ?_
      refine Ev ?_
      refine AWP.seq ?_
      refine AWP.block ?_
      refine AWP.seqReg (by kernel_rfl) (fun E K hE hK => ?_); simp -implicitDefEqProofs only [go_sem, ↓reduceIte, Nat.reduceEqDiff, Nat.reduceAdd, Nat.reduceLT, Nat.reduceLeDiff, reduceCtorEq, Int.toNat_natCast, e25, e27, hbX, t0, t1, List.getElem?_cons_zero, List.getElem?_cons_succ, Option.map_some]
      refine ⟨by decide, ?_⟩
      refine hK _ _ _ ?_; clear hE hK K E
      refine Raf @e6 (fun E K hE hK => ?_)
      refine BiR.of ?_
      refine app_kn (m := m.length) (es := l.map encK) (fs := m.map encK) hrow (okEs_kn _) (okEs_kn _) (by simp [srcA]) (by simp) (by simp) (by omega) (fun cap' T' q1 q2 => ?_)
      refine Ev ?_
      refine hK _ _ _ ?_; clear hE hK K E
      refine Raf (jn2 @e27 @k2) (fun E K hE hK => ?_); refine hK _ _ _ ?_; clear hE hK K E
      exact ⟨Nat.le_refl _, 0, by decide, cutH_outer (Nat.le_succ _) (Ouf @ho) hlow, by refine Evf @e25 ?_; exact cutV_win (Nat.lt_succ_of_lt hX), by exact Ecf @e26, ver + 1, cap', .inr (.inr ⟨rfl, by exact Er, by refine Ev ?_; exact cutV_win (Nat.lt_succ_self _), by rw [List.map_append]; exact (RowAt.new q1 q2).cut (Nat.lt_succ_self _)⟩)⟩
    · refine Rkf (jn3 @e26 @e27 @c22) ?_
      refine AWP.seq ?_
      refine Bf ?_
      refine AWP.exit ?_
      refine Ev ?_
      refine Rkf @e6 ?_
      refine AWP.ret ?_
      obtain ⟨T, q1, q2, q3⟩ := hrow
      refine Ends.row (id := b) (blk := rowB ver ((l ++ m).map encK) T) hn H (Ouf @ho) (Nat.le_refl _) (by exact Erf @q1) (lowCs_app (lowCs_p _ _) (lowCs_mono (Nat.zero_le _) q3)) (r0 := .one (.win b ver 0 (l.length + m.length) cap)) (by rw [show Tryz.f98.results.toList = [.tmp 2] from rfl]; exact Er) (.one renC_win0) ⟨ver, cap, T, by omega, by omega, q3, by rw [List.length_map, List.length_append], rfl⟩
end Go.Proofs.YtihgnpboabpchaaGreatDoor
namespace Go.Proofs.YtihgnpboabpchaaGreatDoor
set_option linter.unusedSimpArgs false
set_option linter.unusedVariables false
set_option linter.unnecessarySimpa false
open Go Am
set_option maxRecDepth 100000
theorem mmay_ok {U : List S} {vg : Int} (g : Gs) (o : GOK U vg g) (hU : U.length ≤ 253) (hvg : vg ≤ 1099511627776) (h : Heap) (b : Nat) :
    ACalls Tryz.prog 43 [GsV g] h b 0 (fun r h' => r = BoolV true ∧ h' = h) := by
  refine ACalls.enter Tryz.func43 rfl (by simp [Tryz.ntmps43]) (fun ι w hn H => ?_)
  have hlow := H.lowCells
  have fin : ∀ (t : Nat → AV) (hh : Heap) (n : Nat), t 2 = BoolV true → (∀ id, id < b → hh id = h id) → Am.Ends Tryz.prog ⟨Tryz.f43.ntmps, b, ι, h, w, x0⟩ Tryz.f43 0 (fun r h' => r = BoolV true ∧ h' = h) ⟨t, hh, n⟩ := by
    intro t hh n ht ho
    exact Ends.pure hn H ho (r0 := BoolV true) (by rw [show Tryz.f43.results.toList = [.tmp 2] from rfl]; exact Ecf @ht) (.v _) ⟨rfl, rfl⟩
  refine Rk ?_
  refine AWP.seq ?_
  refine AWP.block ?_
  rcases o with rfl | o
  · have kz : (zG.kind = 0) = True := eq_true rfl
    refine Rkf @kz ?_
    refine Bt ?_
    refine Rg (fun E K hE hK => ?_)
    refine CallR.use ((mguest_ok zG zG (by decide) (by decide) (by decide) (by decide) (by decide) _ _).argNil ?_) body_53 ?_
    · exact ⟨lessV.refl _, ⟨.inl rfl, .inl rfl, .nil 3, .inl rfl, .nil 3, .nil 1, .nil 1, .nil 1, trivial⟩, trivial⟩
    rintro _ _ ⟨rfl, rfl⟩
    refine Evf @sameG_refl ?_
    refine hK _ _ _ ?_; clear hE hK K E
    refine AWP.ret ?_
    refine Ev ?_
    exact fin _ _ _ (by exact Er) Ou
  have k0 : (g.kind = 0) = False := eq_false (by rcases o.kind with e | e <;> rw [e] <;> decide)
  have l1 := o.base.len; have l2 := o.now.len; have l3 := o.writes.len; have l4 := o.names.len; have l5 := o.dirs.len
  have f1 := mfits_ok g.base 512 o.base.ris o.base.pre (fun x hx => (o.base.mem x hx).2.2) ⟨o.base.gen, Int.le_trans o.gen2 hvg⟩ (by omega) (by decide)
  have f2 := mfits_ok g.now 512 o.now.ris o.now.pre (fun x hx => (o.now.mem x hx).2.2) ⟨o.now.gen, by rw [o.gen]; exact Int.le_trans o.gen2 hvg⟩ (by omega) (by decide)
  have m1 : mayX g.names g.dirs = 0 := may_of o.names o.dirs (by omega)
  have hgen : (g.base.gen = g.now.gen) = True := eq_true o.gen.symm
  refine Rkf @k0 ?_
  refine Bf ?_
  have k5 : ((g.kind = 1) = True ∧ (g.kind = 2) = False) ∨ ((g.kind = 1) = False ∧ (g.kind = 2) = True) := by
    rcases o.kind with e | e
    · exact .inl ⟨eq_true e, eq_false (by rw [e]; decide)⟩
    · exact .inr ⟨eq_false (by rw [e]; decide), eq_true e⟩
  rcases k5 with ⟨k1, k2⟩ | ⟨k1, k2⟩
  · refine Rkf (jn2 @k1 @k2) ?_
    refine Bf ?_
    refine Rg (fun E K hE hK => ?_)
    refine Us (f1 _ _) body_44 ?_
    refine Us (f2 _ _) body_44 ?_
    refine Evf @hgen ?_
    refine Us (vMay_ok g.names g.dirs (by omega) (by omega) _ _) body_86 ?_
    refine Evf @m1 ?_
    refine hK _ _ _ ?_; clear hE hK K E
    refine Bf ?_
    refine Rkf @k2 ?_
    refine Bf ?_
    have hw1 : ¬ (256 : Int) < g.writes.length := by omega
    have m2 : mayX g.writes [] = 0 := may_of o.writes ⟨Ris.nil, fun x hx => by cases hx⟩ (by omega)
    have hlw : (g.writes.map encS).length = g.writes.length := List.length_map _
    refine Rgf (jn2 @hlw @hw1) (fun E K hE hK => ?_)
    refine CallR.use ((vMay_ok g.writes [] (by omega) (by decide) _ _).argNil ⟨⟨.inl rfl, .nil 1, trivial⟩, trivial⟩) body_86 ?_
    rintro _ _ ⟨rfl, rfl⟩
    refine Evf @m2 ?_
    refine hK _ _ _ ?_; clear hE hK K E
    refine Bf ?_
    refine AWP.skip ?_
    refine Ev ?_
    refine AWP.seq ?_
    refine Rg (fun E K hE hK => ?_)
    refine ⟨by omega, ?_⟩
    refine CallR.use ((concat_kn_ok g.base.l g.now.l (by omega) (by omega) _ _ (b + 1) (show b + 1 < b + 2 by omega) (upd_same _ _ _)).rowFrz (okEs_kn _)) body_98 ?_
    rintro _ _ ⟨rfl, rfl⟩
    have hlc : ((g.base.l ++ g.now.l).map encK).length = (g.base.l ++ g.now.l).length := List.length_map _
    have hmem : ∀ x ∈ g.base.l ++ g.now.l, chkN x.name = 0 := fun x hx => by
      rcases List.mem_append.1 hx with q | q
      · exact o.base.pre x q
      · exact o.now.pre x q
    have hLn : (g.base.l ++ g.now.l).length ≤ 1000 := by rw [List.length_append]; omega
    generalize hL : g.base.l ++ g.now.l = L at hlc hmem hLn ⊢
    refine Evf @hlc ?_
    refine hK _ _ _ ?_; clear hE hK K E
    refine AWP.block ?_
    refine AWP.loopM 2 (fun k st => ∃ i, i ≤ L.length ∧ k = L.length - i ∧ (∀ id, id < b → st.h id = h id) ∧ st.h b = some ⟨0, (encG g).map .p⟩ ∧ st.t 1 = .one (.ptr b 0 0) ∧ st.t 81 = KnsV L ∧ st.t 82 = IntV L.length ∧ st.t 83 = IntV (i : Nat)) L.length rfl ⟨0, Nat.zero_le _, rfl, Ou, by exact Er, by exact Er, by exact Er, by exact Er, by exact Er⟩ ?_
    rintro k ⟨t, hh, n⟩ ⟨i, hi, rfl, ho, hB, e1, e81, e82, e83⟩ hn1
    simp only at ho hB e1 e81 e82 e83 hn1
    subst hn1
    refine Rkf (jn2 @e82 @e83) ?_
    refine AWP.seq ?_
    by_cases hlt : (i : Int) < L.length
    · have hw9 : IntKind.i64.wrap ((i : Int) + 1) = ((i + 1 : Nat) : Int) := by rw [wrap_i64 (by omega) (by omega)]; rfl
      have hi2 : i < L.length := by omega
      have hge := encK_getD L i hi2
      obtain ⟨d, hd'⟩ : ∃ d, L[i] = d := ⟨_, rfl⟩
      have hdm : d ∈ L := by rw [← hd']; exact List.getElem_mem hi2
      rw [hd'] at hge
      refine Btf @hlt ?_
      refine AWP.skip ?_
      refine Ev ?_
      refine AWP.seq ?_
      refine AWP.block ?_
      refine Rgf (jn5 @e81 @e83 @hlc @hlt @hge) (fun E K hE hK => ?_)
      refine ⟨by omega, ?_⟩
      refine hK _ _ _ ?_; clear hE hK K E
      have ap := mapart_ok g.base g.now d.name o.base.ris (by omega) o.base.pre o.now.ris (by omega) o.now.pre (.inr (hmem d hdm))
      cases hx : apartX g.base g.now d.name
      · refine Rgf (jn2 @e1 @hB) (fun E K hE hK => ?_)
        refine Us (ap _ _) body_99 ?_
        refine Evf @hx ?_
        refine hK _ _ _ ?_; clear hE hK K E
        refine Bf ?_
        refine AWP.skip ?_
        refine Ev ?_
        refine Raf (jn2 @e83 @hw9) (fun E K hE hK => ?_); refine hK _ _ _ ?_; clear hE hK K E
        exact ⟨(by decide : 2 ≤ 3), L.length - (i + 1), by omega, i + 1, by omega, rfl, cutH_outer (Nat.le_add_right _ _) (Ouf @ho) hlow, cutH_same (Nat.lt_add_of_pos_right (by decide)) (by exact Erf @hB) (by simp [lowCs, lowC]), by refine Evf @e1 ?_; exact cutV_ptr (Nat.lt_add_of_pos_right (by decide)), by exact Ecf @e81, by exact Ecf @e82, by exact Er⟩
      · have hmw : g.writes.any (fun q => decide (q = d.name)) = true := by
          rw [List.any_eq_true]
          refine ⟨d.name, o.wrote d.name (fun e => ?_), decide_eq_true rfl⟩
          unfold apartX at hx
          rw [e] at hx
          split at hx
          · cases hx
          · rename_i a c h1 h2
            rw [h1] at h2; injection h2 with h2; subst h2
            rw [sameK_refl] at hx; cases hx
          · rename_i h1 h2
            cases hq : getV g.now d.name with
            | none => exact h1 hq hq
            | some a => exact h2 a a hq hq
        refine Rgf (jn2 @e1 @hB) (fun E K hE hK => ?_)
        refine Us (ap _ _) body_99 ?_
        refine Evf (jn3 @hx @e1 @hB) ?_
        refine Us (containsStr_ok g.writes d.name (by omega) _ _) body_100 ?_
        refine Evf (jn3 @hmw @e1 @hB) ?_
        refine hK _ _ _ ?_; clear hE hK K E
        refine Bf ?_
        refine AWP.skip ?_
        refine Ev ?_
        refine Raf (jn2 @e83 @hw9) (fun E K hE hK => ?_); refine hK _ _ _ ?_; clear hE hK K E
        exact ⟨(by decide : 2 ≤ 3), L.length - (i + 1), by omega, i + 1, by omega, rfl, cutH_outer (Nat.le_add_right _ _) (Ouf @ho) hlow, cutH_same (Nat.lt_add_of_pos_right (by decide)) (by exact Erf @hB) (by simp [lowCs, lowC]), by refine Evf @e1 ?_; exact cutV_ptr (Nat.lt_add_of_pos_right (by decide)), by exact Ecf @e81, by exact Ecf @e82, by exact Er⟩
    · refine Bff @hlt ?_
      refine AWP.exit ?_
      refine Ev ?_
      refine Rk ?_
      refine AWP.ret ?_
      exact fin _ _ _ (by exact Er) ho
  · obtain ⟨o1, o2⟩ := o.snap (of_eq_true k2)
    refine Rkf (jn2 @k1 @k2) ?_
    refine Bf ?_
    refine Rg (fun E K hE hK => ?_)
    refine Us (f1 _ _) body_44 ?_
    refine Us (f2 _ _) body_44 ?_
    refine Evf @hgen ?_
    refine Us (vMay_ok g.names g.dirs (by omega) (by omega) _ _) body_86 ?_
    refine Evf @m1 ?_
    refine hK _ _ _ ?_; clear hE hK K E
    refine Bf ?_
    refine Rkf @k2 ?_
    refine Bt ?_
    have hlw : (g.writes.map encS).length = g.writes.length := List.length_map _
    have hw0 : ((g.writes.length : Int) = 0) = True := eq_true (by rw [o1]; rfl)
    refine Rgf (jn2 @hlw @hw0) (fun E K hE hK => ?_)
    refine Us (mview_ok g.base g.now (by omega) _ _) body_51 ?_
    have hsw : sameW g.base g.now = true := by rw [o2]; exact sameW_refl _
    refine Evf @hsw ?_
    refine hK _ _ _ ?_; clear hE hK K E
    refine AWP.ret ?_
    refine Ev ?_
    exact fin _ _ _ (by exact Er) Ou
end Go.Proofs.YtihgnpboabpchaaGreatDoor
namespace Go.Proofs.YtihgnpboabpchaaGreatDoor
set_option linter.unusedSimpArgs false
set_option linter.unusedVariables false
set_option linter.unnecessarySimpa false
open Go Am
set_option maxRecDepth 100000
theorem conDn_ok (g : FuncId) (cap : List Cell) (f : Dn → Bool) (xs : List Dn) (h : Heap) (b : Nat) (hg : bodyB Tryz.prog g = true) (hcap : lowCs b cap = true) (hl : xs.length ≤ 1000000)
    (hc : ∀ x ∈ xs, ACalls Tryz.prog g (.agg ((encD x).map .p) :: cap.map .one) h b 0 (fun r h' => r = BoolV (f x) ∧ h' = h)) :
    ACalls Tryz.prog 46 [DonesV xs, .one (.clo (.func g) [] cap)] h b 0 (fun r h' => r = BoolV (xs.any f) ∧ h' = h) := by
  refine ACalls.enter Tryz.func46 rfl (by simp [Tryz.ntmps46]) (fun ι w hn H => ?_)
  refine Rk ?_
  refine Rg (fun E K hE hK => ?_)
  refine Us (index_dn_ok g cap f xs _ _ hg hcap (by omega) hc) body_103 ?_
  refine hK _ _ _ ?_; clear hE hK K E
  refine AWP.ret ?_
  have e : decide (0 ≤ idxFrom f 0 xs) = xs.any f := by
    rw [Bool.eq_iff_iff, decide_eq_true_eq]; exact (idxFrom_any _ xs 0).1
  exact Ends.pure hn H (fun _ _ => rfl) (r0 := BoolV (xs.any f)) (by rw [show Tryz.f46.results.toList = [.tmp 4] from rfl, ← e]; exact Er) (.v _) ⟨rfl, rfl⟩
theorem conGs_ok (g : FuncId) (cap : List Cell) (f : Gs → Bool) (xs : List Gs) (h : Heap) (b : Nat) (hg : bodyB Tryz.prog g = true) (hcap : lowCs b cap = true) (hl : xs.length ≤ 1000000)
    (hc : ∀ x ∈ xs, ACalls Tryz.prog g (.agg ((encG x).map .p) :: cap.map .one) h b 0 (fun r h' => r = BoolV (f x) ∧ h' = h)) :
    ACalls Tryz.prog 47 [.one (.p (.sl 8 (xs.map encG))), .one (.clo (.func g) [] cap)] h b 0 (fun r h' => r = BoolV (xs.any f) ∧ h' = h) := by
  refine ACalls.enter Tryz.func47 rfl (by simp [Tryz.ntmps47]) (fun ι w hn H => ?_)
  refine Rk ?_
  refine Rg (fun E K hE hK => ?_)
  refine Us (index_gs_ok g cap f xs _ _ hg hcap (by omega) hc) body_104 ?_
  refine hK _ _ _ ?_; clear hE hK K E
  refine AWP.ret ?_
  have e : decide (0 ≤ idxFrom f 0 xs) = xs.any f := by
    rw [Bool.eq_iff_iff, decide_eq_true_eq]; exact (idxFrom_any _ xs 0).1
  exact Ends.pure hn H (fun _ _ => rfl) (r0 := BoolV (xs.any f)) (by rw [show Tryz.f47.results.toList = [.tmp 4] from rfl, ← e]; exact Er) (.v _) ⟨rfl, rfl⟩
theorem chk1_ok (m : Md) (d : Dn) (hd : d.gen ≤ m.v.gen) (h : Heap) (b X : Nat) (hX : X < b) (hb : h X = some ⟨0, (encM m).map .p⟩) : ACalls Tryz.prog 41 [.agg ((encD d).map .p), .one (.ptr X 0 0)] h b 0 (fun r h' => r = BoolV false ∧ h' = h) := by
  refine ACalls.enter Tryz.func41 rfl (by simp [Tryz.ntmps41]) (fun ι w hn H => ?_)
  have hne : ¬ X = b := by omega
  have hd' : ¬ m.v.gen < d.gen := by omega
  refine AWP.seqReg (by kernel_rfl) (fun E K hE hK => ?_); simp -implicitDefEqProofs only [go_sem, ↓reduceIte, Nat.reduceEqDiff, Nat.reduceAdd, Nat.reduceLT, Nat.reduceLeDiff, reduceCtorEq, Int.toNat_natCast, encD]; refine hK _ _ _ ?_; clear hE hK K E
  refine AWP.seqReg (by kernel_rfl) (fun E K hE hK => ?_); simp -implicitDefEqProofs only [go_sem, ↓reduceIte, Nat.reduceEqDiff, Nat.reduceAdd, Nat.reduceLT, Nat.reduceLeDiff, reduceCtorEq, Int.toNat_natCast, hb, encM, hne, hd']; refine hK _ _ _ ?_; clear hE hK K E
  refine AWP.ret ?_
  exact Ends.pure hn H Ou (r0 := BoolV false) (by rw [show Tryz.f41.results.toList = [.tmp 3] from rfl]; exact Er) (.v _) ⟨rfl, rfl⟩
theorem chk2_ok {U : List S} (m : Md) (g : Gs) (o : GOK U m.v.gen g) (hU : U.length ≤ 253) (hv : m.v.gen ≤ 1099511627776) (hv0 : 0 ≤ m.v.gen) (h : Heap) (b X : Nat) (hX : X < b) (hb : h X = some ⟨0, (encM m).map .p⟩) : ACalls Tryz.prog 42 [GsV g, .one (.ptr X 0 0)] h b 0 (fun r h' => r = BoolV false ∧ h' = h) := by
  refine ACalls.enter Tryz.func42 rfl (by simp [Tryz.ntmps42]) (fun ι w hn H => ?_)
  have hne : ¬ X = b := by omega
  have hd' : ¬ m.v.gen < g.base.gen := by
    rcases o with rfl | o
    · show ¬ m.v.gen < 0; omega
    · have := o.gen2; omega
  refine Rk ?_
  refine AWP.seqReg (by kernel_rfl) (fun E K hE hK => ?_); simp -implicitDefEqProofs only [go_sem, ↓reduceIte, Nat.reduceEqDiff, Nat.reduceAdd, Nat.reduceLT, Nat.reduceLeDiff, reduceCtorEq, Int.toNat_natCast, hb, encM, hne]
  refine Us (mmay_ok g o hU hv _ _) body_43 ?_
  simp -implicitDefEqProofs only [go_sem, ↓reduceIte, Nat.reduceEqDiff, Nat.reduceAdd, Nat.reduceLT, Nat.reduceLeDiff, reduceCtorEq, Int.toNat_natCast, hb, encM, hne, hd']
  refine hK _ _ _ ?_; clear hE hK K E
  refine AWP.ret ?_
  exact Ends.pure hn H Ou (r0 := BoolV false) (by rw [show Tryz.f42.results.toList = [.tmp 3] from rfl]; exact Er) (.v _) ⟨rfl, rfl⟩
theorem mCheck_ok {U : List S} {k : Nat} (m : Md) (o : OKM U k m) (hU : U.length ≤ 253) (hk : k ≤ 1024) (h : Heap) (b : Nat) : ACalls Tryz.prog 17 [MdV m] h b 0 (fun r h' => r = IntV 0 ∧ h' = h) := by
  refine ACalls.enter Tryz.func17 rfl (by simp [Tryz.ntmps17]) (fun ι w hn H => ?_)
  have hz := size_check o.log
  have hlen := o.len
  have hgl : (m.g.map encG).length = m.g.length := List.length_map _
  have h64 : (((m.g.length : Nat) : Int) = 64) = True := eq_true (by rw [o.gs]; rfl)
  have hv : m.v.gen ≤ 1099511627776 := by rw [o.gen]; omega
  have hv0 : 0 ≤ m.v.gen := by rw [o.gen]; omega
  have hvl := o.v.len
  have f1 := mfits_ok m.v 256 o.v.ris o.v.pre (fun x hx => (o.v.mem x hx).2.2) ⟨o.v.gen, hv⟩ (by omega) (by decide)
  have a1 : m.log.any (fun _ => false) = false := by rw [List.any_eq_false]; intro x _; simp
  have a2 : m.g.any (fun _ => false) = false := by rw [List.any_eq_false]; intro x _; simp
  refine Rk ?_
  refine Rk ?_
  refine Rk ?_
  refine AWP.seq ?_
  refine AWP.seqReg (by kernel_rfl) (fun E K hE hK => ?_); simp -implicitDefEqProofs only [go_sem, ↓reduceIte, Nat.reduceEqDiff, Nat.reduceAdd, Nat.reduceLT, Nat.reduceLeDiff, reduceCtorEq, Int.toNat_natCast, encM]
  refine Us (f1 _ _) body_44 ?_
  refine Evf (jn2 @hgl @h64) ?_
  refine Us (vCheck_ok m.log hz _ _) body_45 ?_
  refine Evf @o.log ?_
  refine Us (conDn_ok 41 [.ptr b 0 0] (fun _ => false) m.log _ _ body_41 (by simp [lowCs, lowC]) hz.1 (fun d hd => chk1_ok m d (o.late d hd) _ _ b (show b < b + 1 by omega) (upd_same _ _ _))) body_46 ?_
  refine Evf @a1 ?_
  refine Us (conGs_ok 42 [.ptr b 0 0] (fun _ => false) m.g _ _ body_42 (by simp [lowCs, lowC]) (by rw [o.gs]; decide) (fun g hg => chk2_ok m g (o.g g hg) hU hv hv0 _ _ b (show b < b + 1 by omega) (upd_same _ _ _))) body_47 ?_
  refine Evf @a2 ?_
  refine hK _ _ _ ?_; clear hE hK K E
  refine Bf ?_
  refine AWP.skip ?_
  refine Ev ?_
  refine Rk ?_
  refine AWP.ret ?_
  exact Ends.pure hn H Ou (r0 := IntV 0) (by rw [show Tryz.f17.results.toList = [.tmp 2] from rfl]; exact Er) (.v _) ⟨rfl, rfl⟩
end Go.Proofs.YtihgnpboabpchaaGreatDoor
namespace Go.Proofs.YtihgnpboabpchaaGreatDoor
set_option linter.unusedSimpArgs false
set_option linter.unusedVariables false
set_option linter.unnecessarySimpa false
open Go Am
set_option maxRecDepth 100000
def zM : Md := ⟨zV, [], []⟩
theorem frz_md {h : Heap} {b : Nat} : frzV h b (.agg [.p (.v (.int .u64 0)), .p (.v (.slice none 0 0)), .p (.v (.slice none 0 0)), .p (.v (.slice none 0 0))]) (MdV zM) := by
  refine .agg rfl (fun i c d hc hd => ?_)
  match i with
  | 0 => simp at hc hd; subst hc; subst hd; exact frz_p _
  | 1 => simp at hc hd; subst hc; subst hd; exact frz_nil 3
  | 2 => simp at hc hd; subst hc; subst hd; exact frz_nil 8
  | 3 => simp at hc hd; subst hc; subst hd; exact frz_nil 2
  | i + 4 => simp at hc
theorem mDoBad_ok {U : List S} {k : Nat} (m : Md) (a : Ac) (o : OKM U k m) (hU : U.length ≤ 253) (hk : k ≤ 1024) (ha : ¬ okA a) (h : Heap) (b : Nat) :
    ACalls Tryz.prog 15 [MdV m, AcV a] h b 0 (fun r h' => r = .tup [MdV zM, RpV zR, IntV 1] ∧ h' = h) := by
  refine ACalls.enter Tryz.func15 rfl (by simp [Tryz.ntmps15]) (fun ι w hn H => ?_)
  have fin : ∀ (t : Nat → AV) (hh : Heap) (n : Nat), t 4 = .one (.ptr (b + 2) 0 0) → t 5 = .one (.ptr (b + 3) 0 0) → t 6 = IntV 1 → hh (b + 2) = some ⟨0, [.p (.v (.int .u64 0)), .p (.v (.slice none 0 0)), .p (.v (.slice none 0 0)), .p (.v (.slice none 0 0))]⟩ → hh (b + 3) = some ⟨0, [.p (.v (.int .i64 0)), .p (.v (.int .u64 0)), .p (.v (.float .f64 0)), .p (.v (.slice none 0 0)), .p (.v (.slice none 0 0))]⟩ → (∀ id, id < b → hh id = h id) → Am.Ends Tryz.prog ⟨Tryz.f15.ntmps, b, ι, h, w, x0⟩ Tryz.f15 0 (fun r h' => r = .tup [MdV zM, RpV zR, IntV 1] ∧ h' = h) ⟨t, hh, n⟩ := by
    intro t hh n h4 h5 h6 hb2 hb3 ho
    exact Ends.pure hn H ho (r0 := .tup [.agg [.p (.v (.int .u64 0)), .p (.v (.slice none 0 0)), .p (.v (.slice none 0 0)), .p (.v (.slice none 0 0))], .agg [.p (.v (.int .i64 0)), .p (.v (.int .u64 0)), .p (.v (.float .f64 0)), .p (.v (.slice none 0 0)), .p (.v (.slice none 0 0))], IntV 1]) (by rw [show Tryz.f15.results.toList = [.cell 4 32, .cell 5 44, .tmp 6] from rfl]; exact Erf (jn5 @h4 @h5 @h6 @hb2 @hb3)) (frz_tup3 frz_md frz_rpZ (.v _)) ⟨rfl, rfl⟩
  refine Rk ?_
  refine AWP.seq ?_
  by_cases c1 : a.who < 0
  · refine AWP.seqReg (by kernel_rfl) (fun E K hE hK => ?_); simp -implicitDefEqProofs only [go_sem, ↓reduceIte, Nat.reduceEqDiff, Nat.reduceAdd, Nat.reduceLT, Nat.reduceLeDiff, reduceCtorEq, Int.toNat_natCast, encM, encA, c1]
    refine Us (mCheck_ok m o hU hk _ _) body_17 ?_
    simp -implicitDefEqProofs only [go_sem, ↓reduceIte, Nat.reduceEqDiff, Nat.reduceAdd, Nat.reduceLT, Nat.reduceLeDiff, reduceCtorEq, Int.toNat_natCast, encA, c1]
    refine hK _ _ _ ?_; clear hE hK K E
    refine Bt ?_
    refine Rk ?_
    refine AWP.ret ?_
    refine Ev ?_
    exact fin _ _ _ (by exact Er) (by exact Er) (by exact Er) (by exact Er) (by exact Er) Ou
  by_cases c2 : 64 ≤ a.who
  · refine AWP.seqReg (by kernel_rfl) (fun E K hE hK => ?_); simp -implicitDefEqProofs only [go_sem, ↓reduceIte, Nat.reduceEqDiff, Nat.reduceAdd, Nat.reduceLT, Nat.reduceLeDiff, reduceCtorEq, Int.toNat_natCast, encM, encA, c1, c2]
    refine Us (mCheck_ok m o hU hk _ _) body_17 ?_
    simp -implicitDefEqProofs only [go_sem, ↓reduceIte, Nat.reduceEqDiff, Nat.reduceAdd, Nat.reduceLT, Nat.reduceLeDiff, reduceCtorEq, Int.toNat_natCast, encA, c1, c2]
    refine hK _ _ _ ?_; clear hE hK K E
    refine Bt ?_
    refine Rk ?_
    refine AWP.ret ?_
    refine Ev ?_
    exact fin _ _ _ (by exact Er) (by exact Er) (by exact Er) (by exact Er) (by exact Er) Ou
  by_cases c3 : a.kind < 1
  · refine AWP.seqReg (by kernel_rfl) (fun E K hE hK => ?_); simp -implicitDefEqProofs only [go_sem, ↓reduceIte, Nat.reduceEqDiff, Nat.reduceAdd, Nat.reduceLT, Nat.reduceLeDiff, reduceCtorEq, Int.toNat_natCast, encM, encA, c1, c2, c3]
    refine Us (mCheck_ok m o hU hk _ _) body_17 ?_
    simp -implicitDefEqProofs only [go_sem, ↓reduceIte, Nat.reduceEqDiff, Nat.reduceAdd, Nat.reduceLT, Nat.reduceLeDiff, reduceCtorEq, Int.toNat_natCast, encA, c1, c2, c3]
    refine hK _ _ _ ?_; clear hE hK K E
    refine Bt ?_
    refine Rk ?_
    refine AWP.ret ?_
    refine Ev ?_
    exact fin _ _ _ (by exact Er) (by exact Er) (by exact Er) (by exact Er) (by exact Er) Ou
  have c4 : 11 < a.kind := by
    refine Decidable.byContradiction fun q => ha ⟨by omega, by omega, by omega, by omega⟩
  refine AWP.seqReg (by kernel_rfl) (fun E K hE hK => ?_); simp -implicitDefEqProofs only [go_sem, ↓reduceIte, Nat.reduceEqDiff, Nat.reduceAdd, Nat.reduceLT, Nat.reduceLeDiff, reduceCtorEq, Int.toNat_natCast, encM, encA, c1, c2, c3, c4]
  refine Us (mCheck_ok m o hU hk _ _) body_17 ?_
  simp -implicitDefEqProofs only [go_sem, ↓reduceIte, Nat.reduceEqDiff, Nat.reduceAdd, Nat.reduceLT, Nat.reduceLeDiff, reduceCtorEq, Int.toNat_natCast, encA, c1, c2, c3, c4]
  refine hK _ _ _ ?_; clear hE hK K E
  refine Bt ?_
  refine Rk ?_
  refine AWP.ret ?_
  refine Ev ?_
  exact fin _ _ _ (by exact Er) (by exact Er) (by exact Er) (by exact Er) (by exact Er) Ou
theorem frz_psM {h : Heap} {b : Nat} (l : List PD) : frzV h b (.agg (l.map .p)) (.agg (l.map .p)) := .agg rfl (fun i c d hc hd => by rw [hc] at hd; injection hd with hd; subst hd; obtain ⟨x, _, rfl⟩ := List.mem_map.1 (List.mem_of_getElem? hc); exact .inl ⟨rfl, rfl⟩)
theorem sub2a {H : Heap} {x y vx : Nat} {cx c1 : List Cell} (hx : H x = some ⟨vx, cx⟩) (hne : ¬ x = y) : Am.Sub (ers (ers H x) y) (upd H x ⟨vx, c1⟩) := by
  have s := (sub_ers (ers H x) y).trans (sub_ers H x)
  exact s.at (x := ⟨vx, c1⟩) (by rw [ers_lit, if_neg hne, ers_lit, if_pos rfl, hx]; rfl)
theorem sub2b {H : Heap} {x y vx vy : Nat} {cx cy c1 c2 : List Cell} (hx : H x = some ⟨vx, cx⟩) (hy : H y = some ⟨vy, cy⟩) (hne : ¬ x = y) : Am.Sub (ers (ers H x) y) (upd (upd H x ⟨vx, c1⟩) y ⟨vy, c2⟩) :=
  (sub2a (c1 := c1) hx hne).at (x := ⟨vy, c2⟩) (by rw [ers_lit, if_pos rfl, ers_lit, if_neg (fun e => hne e.symm), hy]; rfl)
theorem OKM.szM {U : List S} {k : Nat} {m : Md} (o : OKM U k m) (hU : U.length ≤ 253) : SzM m := by
  refine ⟨o.v.sz hU, o.gs, fun g hg => ?_, size_check o.log⟩
  rcases o.g g hg with rfl | og
  · exact ⟨⟨by decide, fun x hx => by cases hx⟩, ⟨by decide, fun x hx => by cases hx⟩, by decide, by decide, by decide⟩
  · have l3 := og.writes.len; have l4 := og.names.len; have l5 := og.dirs.len
    exact ⟨og.base.sz hU, og.now.sz hU, by omega, by omega, by omega⟩
theorem mDo_ok {U : List S} {k : Nat} (m : Md) (a : Ac) (o : OKM U k m) (hU : U.length ≤ 253) (hk : k ≤ 1024) (ha : okA a) (had : a.data.length ≤ 1000000) (h : Heap) (b : Nat) :
    ACalls Tryz.prog 15 [MdV m, AcV a] h b 0 (fun r h' => r = .tup [MdV (doM m a).1, RpV (doM m a).2, IntV 0] ∧ h' = h) := by
  refine ACalls.enter Tryz.func15 rfl (by simp [Tryz.ntmps15]) (fun ι w hn H => ?_)
  have hlow := H.lowCells
  obtain ⟨a1, a2, a3, a4⟩ := ha
  have c1 : ¬ a.who < 0 := by omega
  have c2 : ¬ 64 ≤ a.who := by omega
  have c3 : ¬ a.kind < 1 := by omega
  have c4 : ¬ 11 < a.kind := by omega
  have hwho : (a.who.toNat : Int) = a.who := by omega
  have hw64 : a.who.toNat < 64 := by omega
  have hgl : a.who.toNat < m.g.length := by rw [o.gs]; exact hw64
  have hg : m.g[a.who.toNat]? = some (gAt m a.who.toNat) := by
    unfold gAt
    rw [List.getD_eq_getElem?_getD, List.getElem?_eq_getElem hgl]; rfl
  have hgm : gAt m a.who.toNat ∈ m.g := List.mem_of_getElem? hg
  have P := aPre_ok (a := a) o hU hk ⟨a1, a2, a3, a4⟩ had hgm
  obtain ⟨r, hr⟩ : ∃ r, actG m.v m.log (gAt m a.who.toNat) a = r := ⟨_, rfl⟩
  have hdo : doM m a = (⟨r.1, m.g.set a.who.toNat r.2.2.1, r.2.1⟩, r.2.2.2) := by unfold doM; rw [hr]
  rw [hdo]
  obtain ⟨v', log', g', rp⟩ := r
  simp only
  refine Rk ?_
  refine AWP.seq ?_
  refine AWP.seqReg (by kernel_rfl) (fun E K hE hK => ?_); simp -implicitDefEqProofs only [go_sem, ↓reduceIte, Nat.reduceEqDiff, Nat.reduceAdd, Nat.reduceLT, Nat.reduceLeDiff, reduceCtorEq, Int.toNat_natCast, encM, encA, c1, c2, c3, c4]
  refine Us (mCheck_ok m o hU hk _ _) body_17 ?_
  simp -implicitDefEqProofs only [go_sem, ↓reduceIte, Nat.reduceEqDiff, Nat.reduceAdd, Nat.reduceLT, Nat.reduceLeDiff, reduceCtorEq, Int.toNat_natCast, encA, c1, c2, c3, c4]
  refine hK _ _ _ ?_; clear hE hK K E
  refine Bs ?_
  refine AWP.seqReg (by kernel_rfl) (fun E K hE hK => ?_); simp -implicitDefEqProofs only [go_sem, ↓reduceIte, Nat.reduceEqDiff, Nat.reduceAdd, Nat.reduceLT, Nat.reduceLeDiff, reduceCtorEq, Int.toNat_natCast, encM]
  refine CallR.use (mall_ok m (o.szM hU) _ _) body_38 ?_
  rintro _ _ ⟨ver, cap, T, g1, g2, g3, rfl, rfl⟩
  refine Ev ?_
  refine hK _ _ _ ?_; clear hE hK K E
  rw [o.gs] at g1 g2
  refine Am.AWP.genT (fun st => st.n = 6 ∧ st.t 3 = .one (.ptr (b + 1) 0 0) ∧ st.t 4 = .one (.ptr (b + 2) 0 0) ∧ st.t 5 = .one (.ptr (b + 3) 0 0) ∧ st.t 6 = IntV 0 ∧ st.t 7 = .one (.ptr (b + 5) 0 0) ∧ st.h (b + 1) = some ⟨0, (encA a).map .p⟩ ∧
    st.h (b + 2) = some ⟨0, [.p (.v (.int .u64 0)), .p (.v (.slice none 0 0)), .p (.v (.slice none 0 0)), .p (.v (.slice none 0 0))]⟩ ∧ st.h (b + 3) = some ⟨0, [.p (.v (.int .i64 0)), .p (.v (.int .u64 0)), .p (.v (.float .f64 0)), .p (.v (.slice none 0 0)), .p (.v (.slice none 0 0))]⟩ ∧ st.h (b + 4) = some (rowB ver (m.g.map encG) T) ∧
    st.h (b + 5) = some ⟨0, [.p (.v (.int .u64 m.v.gen)), .p (.sl 3 (m.v.l.map encK)), .win (b + 4) ver 0 64 cap, .p (.sl 2 (m.log.map encD)), .p (.v (.pointer none))]⟩ ∧ ∀ id, id < b → st.h id = h id) ⟨rfl, by exact Er, by exact Er, by exact Er, by exact Er, by exact Er, by (first | (simp -implicitDefEqProofs only [go_sem, ↓reduceIte, Nat.reduceEqDiff, Nat.reduceAdd, Nat.reduceLT, Nat.reduceLeDiff, reduceCtorEq, Int.toNat_natCast, encA]; first | done | rfl) | rfl), by exact Er, by exact Er, by exact Er, by exact Er, Ou⟩ ?_
  rintro ⟨t, h1, n⟩ ⟨hn1, e3, e4, e5, e6, e7, hA, hM, hR, hG, hW, ho⟩
  simp only at hn1 e3 e4 e5 e6 e7 hA hM hR hG hW ho
  subst hn1
  refine AWP.known (fun hnew => ?_)
  simp only at hnew
  have hlL : ((m.g.map encG).flatten.map Cell.p ++ T).length = 64 * 8 + T.length := by rw [List.length_append, List.length_map, okEs_len (okEs_gs _), List.length_map, o.gs]
  have hG' : h1 (b + 4) = some ⟨ver, (m.g.map encG).flatten.map Cell.p ++ T⟩ := hG
  generalize hL : (m.g.map encG).flatten.map Cell.p ++ T = L at hG' hlL
  refine AWP.seqRegC 11 [] [] (h1) (Sub.refl _) mixed (by kernel_rfl) (by kernel_rfl) (by kernel_rfl) (fun K hK => ?_) (by kernel_rfl); simp -implicitDefEqProofs only [go_sem, ↓reduceIte, Nat.reduceEqDiff, Nat.reduceAdd, Nat.reduceLT, Nat.reduceLeDiff, reduceCtorEq, Int.toNat_natCast, List.take_succ_cons, List.take_zero, List.drop_succ_cons, List.drop_zero,  e3, e7, hA, hW, hG', encA]
  refine ⟨⟨by omega, by omega⟩, P2 (ers h1 (b + 5)) (sub_ers _ _) ?_⟩
  refine Evf (jn2 @hW @hG') ?_
  refine ⟨sub_at _ hW, ?_⟩
  refine hK _ _ _ ?_; clear hK K
  have hw : WB (upd h1 (b + 5) ⟨0, [.p (.v (.int .u64 m.v.gen)), .p (.sl 3 (m.v.l.map encK)), .win (b + 4) ver 0 64 cap, .p (.sl 2 (m.log.map encD)), .ptr (b + 4) ver (a.who.toNat * 8)]⟩) (b + 5) (b + 4) ver cap a.who.toNat m.v m.log m.g :=
    ⟨upd_same _ _ _, ⟨T, (upd_ne _ _ _ _ (by omega)).trans (by rw [hG', rowB, hL]), by rw [List.length_map, o.gs]; omega, g3⟩, o.gs, hw64, by omega⟩
  refine AWP.seqReg (by kernel_rfl) (fun E K hE hK => ?_); simp -implicitDefEqProofs only [go_sem, ↓reduceIte, Nat.reduceEqDiff, Nat.reduceAdd, Nat.reduceLT, Nat.reduceLeDiff, reduceCtorEq, Int.toNat_natCast, e3, e7, hA, encA]
  refine CallR.use (mAct_ok a (gAt m a.who.toNat) m.v m.log P _ (b + 6) (b + 5) (b + 4) ver cap a.who.toNat m.g (by omega) (by omega) hw hg) body_39 ?_
  rintro _ h3 ⟨rfl, hw3, ho3⟩
  have hlt : ∀ id, id < b + 4 → h3 id = h1 id := fun id hid => (ho3 id (show id < b + 6 by omega) (by omega) (by omega)).trans (upd_ne _ _ _ _ (by omega))
  have hM3 := (hlt (b + 2) (by omega)).trans hM
  have hR3 := (hlt (b + 3) (by omega)).trans hR
  rw [hr] at hw3 ⊢
  simp only at hw3 ⊢
  obtain ⟨w1, w2, w3, w4, w5⟩ := hw3
  have hRP : ∀ hh : Heap, (upd hh (b + 6) ⟨0, (encR rp).map .p⟩) (b + 6) = some ⟨0, (encR rp).map .p⟩ := fun hh => upd_same _ _ _
  refine Ev ?_
  refine hK _ _ _ ?_; clear hE hK K E
  obtain ⟨T2, q1, q2, q3⟩ := w2
  have q1' : h3 (b + 4) = some ⟨ver, ((m.g.set a.who.toNat g').map encG).flatten.map Cell.p ++ T2⟩ := q1
  generalize hL2 : ((m.g.set a.who.toNat g').map encG).flatten.map Cell.p ++ T2 = L2 at q1'
  refine AWP.seqRegD [] [] [b + 2, b + 3] mixed (by kernel_rfl) (by kernel_rfl) (fun K hK => .inl ?_) (by kernel_rfl); simp -implicitDefEqProofs only [go_sem, ↓reduceIte, Nat.reduceEqDiff, Nat.reduceAdd, Nat.reduceLT, Nat.reduceLeDiff, reduceCtorEq, Int.toNat_natCast, e4, e5, e7, w1, wB, hM3, hR3, q1']
  refine ⟨sub2a (by exact Erf @hM3) (by omega), sub2b (by exact Erf @hM3) (by exact Erf @hR3) (by omega), ?_⟩
  refine hK _ _ _ ?_; clear hK K
  refine Am.AWP.genT (fun st => st.t 4 = .one (.ptr (b + 2) 0 0) ∧ st.t 5 = .one (.ptr (b + 3) 0 0) ∧ st.t 6 = IntV 0 ∧ st.h (b + 2) = some ⟨0, [.p (.v (.int .u64 v'.gen)), .p (.sl 3 (v'.l.map encK)), .win (b + 4) ver 0 64 cap, .p (.sl 2 (log'.map encD))]⟩ ∧ st.h (b + 3) = some ⟨0, (encR rp).map .p⟩ ∧ st.h (b + 4) = some ⟨ver, L2⟩ ∧ ∀ id, id < b → st.h id = h id) ⟨by exact Erf @e4, by exact Erf @e5, by exact Erf @e6, by exact Er, by exact Er, by exact Erf @q1', fun id hid => ?_⟩ ?_
  · have hid' : id < b := hid
    exact (upd_ne _ _ _ _ (by omega)).trans ((upd_ne _ _ _ _ (by omega)).trans ((upd_ne _ _ _ _ (by omega)).trans ((hlt id (by omega)).trans (ho id hid))))
  clear hM hR hG hW ho e3 e4 e5 e6 e7 hA hG' hw ho3 hlt hM3 hR3 q1' w1 hnew
  rintro ⟨t, hh, n⟩ ⟨e4, e5, e6, hM, hR, hQ, ho⟩
  simp only at e4 e5 e6 hM hR hQ ho
  refine AWP.frzAt (b + 2) 2 hM rfl ⟨T2, by rw [hQ, rowB, hL2], q2, q3⟩ (okEs_gs _) (by rw [List.length_map, List.length_set, o.gs]) (by omega) ?_
  refine AWP.ret ?_
  exact Ends.pure hn H (fun id hid => (upd_ne _ _ _ _ (Nat.ne_of_lt (Nat.lt_add_right _ hid))).trans ((delH_ne _ _ _ (Nat.ne_of_lt (Nat.lt_add_right _ hid))).trans (ho id hid))) (r0 := .tup [MdV ⟨v', m.g.set a.who.toNat g', log'⟩, RpV rp, IntV 0]) (by rw [show Tryz.f15.results.toList = [.cell 4 32, .cell 5 44, .tmp 6] from rfl]; (first | (simp -implicitDefEqProofs only [go_sem, ↓reduceIte, Nat.reduceEqDiff, Nat.reduceAdd, Nat.reduceLT, Nat.reduceLeDiff, reduceCtorEq, Int.toNat_natCast, e4, e5, e6, hR, delH]; first | done | rfl) | rfl)) (frz_tup3 (frz_psM _) (frz_psM _) (.v _)) ⟨rfl, rfl⟩
end Go.Proofs.YtihgnpboabpchaaGreatDoor
namespace Go.Proofs.YtihgnpboabpchaaGreatDoor
set_option linter.unusedSimpArgs false
set_option linter.unusedVariables false
set_option linter.unnecessarySimpa false
open Go Am
set_option maxRecDepth 100000
def zGc : List Cell := [.p (.v (.int .i64 0)), .p (.v (.int .u64 0)), .p (.v (.slice none 0 0)), .p (.v (.int .u64 0)), .p (.v (.slice none 0 0)), .p (.v (.slice none 0 0)), .p (.v (.slice none 0 0)), .p (.v (.slice none 0 0))]
theorem zG_less : ∀ n : Nat, lessL (repl zGc n) ((List.replicate n (encG zG)).flatten.map .p)
  | 0 => trivial
  | n + 1 => by
    rw [List.replicate_succ, List.flatten_cons, List.map_append]
    show lessL (zGc ++ repl zGc n) _
    exact lessL.app ⟨.inl rfl, .inl rfl, .nil 3, .inl rfl, .nil 3, .nil 1, .nil 1, .nil 1, trivial⟩ (zG_less n)
theorem frz_mdN {h : Heap} {b : Nat} (gs : List Gs) : frzV h b (.agg [.p (.v (.int .u64 1)), .p (.v (.slice none 0 0)), .p (.sl 8 (gs.map encG)), .p (.v (.slice none 0 0))]) (MdV ⟨⟨1, []⟩, gs, []⟩) := by
  refine .agg rfl (fun i c d hc hd => ?_)
  match i with
  | 0 => simp at hc hd; subst hc; subst hd; exact frz_p _
  | 1 => simp at hc hd; subst hc; subst hd; exact frz_nil 3
  | 2 => simp at hc hd; subst hc; subst hd; exact frz_p _
  | 3 => simp at hc hd; subst hc; subst hd; exact frz_nil 2
  | i + 4 => simp at hc
theorem mNew_ok (h : Heap) (b : Nat) : ACalls Tryz.prog 14 [] h b 0 (fun r h' => r = MdV newM ∧ h' = h) := by
  refine ACalls.enter Tryz.func14 rfl (by simp [Tryz.ntmps14]) (fun ι w hn H => ?_)
  refine Rk ?_
  refine Rg (fun E K hE hK => ?_)
  refine MkR.of ?_
  refine MkK.make (e := 51) (sz := 8) (bytes := 144) (len := 64) (cap := 64) (zs := [.int .i64 0, .int .u64 0, .slice none 0 0, .int .u64 0, .slice none 0 0, .slice none 0 0, .slice none 0 0, .slice none 0 0]) ty_slE_29 ty_tsz_51 ty_tzero_51 rfl ty_tby_51 (Nat.le_refl _) (by decide) (by decide) ?_
  have hz := zG_less 64
  have e1 : (List.map (fun v => Cell.p (.v v)) [Value.int .i64 0, .int .u64 0, .slice none 0 0, .int .u64 0, .slice none 0 0, .slice none 0 0, .slice none 0 0, .slice none 0 0]) = zGc := rfl
  rw [e1]
  have hfl := okEs_len (okEs_gs newM.g)
  have hng : newM.g.map encG = List.replicate 64 (encG zG) := by show (List.replicate 64 zG).map encG = _; rw [List.map_replicate]
  rw [← hng] at hz
  generalize repl zGc 64 = Z at hz ⊢
  refine Ev ?_
  refine hK _ _ _ ?_; clear hE hK K E
  refine AWP.nilsAt (b + 1) (cs := (newM.g.map encG).flatten.map .p) (gb := ⟨0, Z⟩) (by exact Er) hz ?_
  refine AWP.frzAt b 2 (sz := 8) (es := newM.g.map encG) (gb := ⟨0, [.p (.v (.int .u64 1)), .p (.v (.slice none 0 0)), .win (b + 1) 0 0 64 64, .p (.v (.slice none 0 0))]⟩) (id := b + 1) (ver := 0) (len := 64) (cap := 64) (by exact Er) rfl ⟨[], by rw [upd_same]; show _ = some (⟨0, _⟩ : Blk); rw [List.append_nil], by rw [hng, List.length_replicate]; rfl, rfl⟩ (okEs_gs _) (by rw [hng, List.length_replicate]) (by omega) ?_
  refine AWP.ret ?_
  refine Ends.pure hn H (fun id hid => ?_) (r0 := .agg [.p (.v (.int .u64 1)), .p (.v (.slice none 0 0)), .p (.sl 8 (newM.g.map encG)), .p (.v (.slice none 0 0))]) (by rw [show Tryz.f14.results.toList = [.cell 0 32] from rfl]; exact Er) (frz_mdN _) ⟨rfl, rfl⟩
  · have hid' : id < b := hid
    exact (upd_ne _ _ _ _ (by omega)).trans ((delH_ne _ _ _ (by omega)).trans (by exact Ecf (jn2 (show ¬ id = b by omega) (show ¬ id = b + 1 by omega))))
theorem mreply_ok (r : Rp) (hl : r.names.length ≤ 1000000) (h : Heap) (b : Nat) : ACalls Tryz.prog 18 [RpV r, RpV r] h b 0 (fun x h' => x = BoolV true ∧ h' = h) := by
  refine ACalls.enter Tryz.func18 rfl (by simp [Tryz.ntmps18]) (fun ι w hn H => ?_)
  have d1 : (keyR r.rank = keyR r.rank) = True := eq_true rfl
  have d2 : (r.data = r.data) = True := eq_true rfl
  have d3 : (r.names = r.names) = True := eq_true rfl
  refine Rk ?_
  refine Rg (fun E K hE hK => ?_)
  refine Us (rankSame_ok r.rank r.rank _ _) body_48 ?_
  try (refine Evf @d1 ?_)
  refine Us (bytesEqM_ok r.data r.data _ _) body_49 ?_
  try (refine Evf @d2 ?_)
  refine Us (strEq_ok r.names r.names hl _ _) body_50 ?_
  try (refine Evf @d3 ?_)
  refine hK _ _ _ ?_; clear hE hK K E
  refine AWP.ret ?_
  exact Ends.pure hn H Ou (r0 := BoolV true) (by rw [show Tryz.f18.results.toList = [.tmp 4] from rfl]; exact Er) (.v _) ⟨rfl, rfl⟩
end Go.Proofs.YtihgnpboabpchaaGreatDoor
namespace Go.Proofs.YtihgnpboabpchaaGreatDoor
set_option linter.unusedSimpArgs false
set_option linter.unusedVariables false
set_option linter.unnecessarySimpa false
open Go Am
theorem OKM.more {U : List S} {k k' : Nat} {m : Md} (o : OKM U k m) (h : k ≤ k') : OKM U k' m := ⟨o.v, o.gs, o.g, o.log, Nat.le_trans o.len h, o.gen, o.late⟩
def inU (U : List S) (a : Ac) : Prop := a.p ∈ U ∧ a.q ∈ U ∧ a.data.length ≤ 1000000
theorem doM_ok {U : List S} {k : Nat} {m : Md} {a : Ac} (o : OKM U k m) (ha : okA a) (hu : inU U a) (hU : U.length ≤ 253) (hk : k < 1024) : OKM U (k + 1) (doM m a).1 :=
  do_ok o ha hu.1 hu.2.1 (by omega) hk
theorem runM_ok {U : List S} : ∀ {l : List Ac} {k : Nat} {m : Md}, OKM U k m → (∀ a ∈ l, inU U a) → U.length ≤ 253 → k + l.length ≤ 1024 → OKM U (k + l.length) (runM m l).1
  | [], _, _, o, _, _, _ => o
  | a :: l, k, m, o, hu, hU, hk => by
    unfold runM
    rw [List.length_cons] at hk ⊢
    split
    · rename_i ha
      have := runM_ok (l := l) (doM_ok o ha (hu a List.mem_cons_self) hU (by omega)) (fun x hx => hu x (List.mem_cons_of_mem _ hx)) hU (by omega)
      rwa [show k + 1 + l.length = k + (l.length + 1) by omega] at this
    · exact o.more (by omega)
def namesA (l : List Ac) : List S := l.flatMap fun a => [a.p, a.q]
theorem namesA_len (l : List Ac) : (namesA l).length = 2 * l.length := by
  induction l with
  | nil => rfl
  | cons a l ih => unfold namesA at *; rw [List.flatMap_cons, List.length_append, ih, List.length_cons]; simp; omega
theorem namesA_mem {l : List Ac} {a : Ac} (h : a ∈ l) : a.p ∈ namesA l ∧ a.q ∈ namesA l :=
  ⟨List.mem_flatMap.2 ⟨a, h, by simp⟩, List.mem_flatMap.2 ⟨a, h, by simp⟩⟩
def fewA (l : List Ac) : Bool := l.all (fun a => decide (a.p.length ≤ 200) && (decide (a.q.length ≤ 200) && decide (a.data.length ≤ 100))) && decide (l.length ≤ 40)
theorem fewA_iff {l : List Ac} : fewA l = true ↔ (∀ a ∈ l, a.p.length ≤ 200 ∧ a.q.length ≤ 200 ∧ a.data.length ≤ 100) ∧ l.length ≤ 40 := by
  simp [fewA]
theorem act_names (v : Vw) (log : List Dn) (g : Gs) (a : Ac) : (actG v log g a).2.2.2.names.length ≤ g.now.l.length := by
  have p1 : (putG g a).2.names = [] := by unfold putG; repeat' split
                                          all_goals rfl
  have p2 : (delG g a).2.names = [] := by unfold delG; repeat' split
                                          all_goals rfl
  have p3 : (movG g a).2.names = [] := by unfold movG; repeat' split
                                          all_goals rfl
  have p4 : (lookG g a).2.names = [] := by unfold lookG; repeat' split
                                           all_goals (try simp only)
                                           all_goals (repeat' split)
                                           all_goals rfl
  have p5 : (comG v log g).2.2.names = [] := by unfold comG; repeat' split
                                                all_goals rfl
  have p6 : (listG g a).2.names.length ≤ g.now.l.length := by
    unfold listG
    split
    · exact Nat.zero_le _
    · simp only [List.length_map]; exact List.length_filter_le _ _
  unfold actG
  repeat' split
  all_goals simp only [p1, p2, p3, p4, p5]
  all_goals first
    | exact Nat.zero_le _
    | exact p6
end Go.Proofs.YtihgnpboabpchaaGreatDoor
namespace Go.Proofs.YtihgnpboabpchaaGreatDoor
set_option linter.unusedSimpArgs false
set_option linter.unusedVariables false
set_option linter.unnecessarySimpa false
open Go Am
theorem app_rp {C : Ctx} {h : Heap} {n : Nat} {K : KT} {id ver cap len m : Nat} {es fs : List (List PD)} {x : AV} (hr : RowAt h id ver cap 5 es) (hes : okEs 5 es) (hfs : okEs 5 fs) (hx : srcA h 5 x = some (m, fs.flatten.map .p)) (hlen : len = es.length) (hm : m = fs.length) (hl : len + m ≤ 1000000)
    (k : ∀ cap' T', (es ++ fs).length * 5 + T'.length = cap' * 5 → lowCs 0 T' = true → K (.one (.win id (ver + 1) 0 (len + m) cap')) (upd h id (rowB (ver + 1) (es ++ fs) T')) n) :
    BiK Tryz.prog C .append [33, 33] [.one (.win id ver 0 len cap), x] h n K := by
  obtain ⟨T, h1, h3, h4⟩ := hr
  have hfl := okEs_len hes
  refine BiK.append_own (e := 44) (sz := 5) (bytes := 72) (m := m) (xs := fs.flatten.map .p) (blk := rowB ver es T) ty_slE_33 ty_tsz_44 ty_tzero_44 rfl ty_tby_44 ty_isIntT_33 h1 rfl
    (by rw [rowB]; simp only [List.length_append, List.length_map, hfl]; omega) hx (okEs_flat hfs _) (by omega) (by decide) (by omega) (fun cap' j q1 q2 => ?_)
  have e := row_push (sz := 5) (ver := ver + 1) (len := len) (es := es) (fs := fs) (T := T) hes hlen j
  rw [show (rowB ver es T).cells = es.flatten.map .p ++ T from rfl, e]
  exact k cap' _ (by rw [List.length_replicate, List.length_append]; omega) (lowCs_junk _ _)
end Go.Proofs.YtihgnpboabpchaaGreatDoor
namespace Go.Proofs.YtihgnpboabpchaaGreatDoor
set_option linter.unusedSimpArgs false
set_option linter.unusedVariables false
set_option linter.unnecessarySimpa false
open Go Am
set_option maxRecDepth 100000
theorem lfew_ok (l : List Ac) (hl : l.length ≤ 9223372036854775807) (h : Heap) (b : Nat) : ACalls Tryz.prog 12 [AcsV l] h b 0 (fun r h' => r = BoolV (fewA l) ∧ h' = h) := by
  refine ACalls.enter Tryz.func12 rfl (by simp [Tryz.ntmps12]) (fun ι w hn H => ?_)
  have hlow := H.lowCells
  have hlm : (l.map encA).length = l.length := List.length_map _
  have fin : ∀ (t : Nat → AV) (hh : Heap) (n : Nat) (v : Bool), t 2 = BoolV v → (∀ id, id < b → hh id = h id) → v = fewA l → Am.Ends Tryz.prog ⟨Tryz.f12.ntmps, b, ι, h, w, x0⟩ Tryz.f12 0 (fun r h' => r = BoolV (fewA l) ∧ h' = h) ⟨t, hh, n⟩ := by
    intro t hh n v ht ho hv
    exact Ends.pure hn H ho (r0 := BoolV v) (by rw [show Tryz.f12.results.toList = [.tmp 2] from rfl]; exact Ecf @ht) (.v _) ⟨by rw [hv], rfl⟩
  refine Rk ?_
  refine AWP.seq ?_
  refine Rk ?_
  refine AWP.block ?_
  refine AWP.loopM 0 (fun k st => ∃ i, i ≤ l.length ∧ k = l.length - i ∧ (∀ id, id < b → st.h id = h id) ∧ st.t 0 = AcsV l ∧ st.t 5 = AcsV l ∧ st.t 6 = IntV l.length ∧ st.t 7 = IntV (i : Nat) ∧ ∀ a ∈ l.take i, a.p.length ≤ 200 ∧ a.q.length ≤ 200 ∧ a.data.length ≤ 100) l.length rfl ⟨0, Nat.zero_le _, rfl, Ou, by exact Er, by exact Er, by exact Erf @hlm, by exact Er, by simp⟩ ?_
  rintro k ⟨t, hh, n⟩ ⟨i, hi, rfl, ho, e0, e5, e6, e7, hok⟩ hn1
  simp only at ho e0 e5 e6 e7 hn1
  subst hn1
  refine Rkf (jn2 @e6 @e7) ?_
  refine AWP.seq ?_
  by_cases hlt : (i : Int) < l.length
  · have hw1 : IntKind.i64.wrap ((i : Int) + 1) = ((i + 1 : Nat) : Int) := by rw [wrap_i64 (by omega) (by omega)]; rfl
    have hi2 : i < l.length := by omega
    have hge := encA_getD l i hi2
    obtain ⟨a, ha⟩ : ∃ a, l[i] = a := ⟨_, rfl⟩
    have ham : a ∈ l := by rw [← ha]; exact List.getElem_mem hi2
    rw [ha] at hge
    have hdl : (a.data.map encO).length = a.data.length := List.length_map _
    have bad : ¬ (a.p.length ≤ 200 ∧ a.q.length ≤ 200 ∧ a.data.length ≤ 100) → false = fewA l := fun hb => by
      cases hf : fewA l with
      | false => rfl
      | true => exact absurd ((fewA_iff.1 hf).1 a ham) hb
    refine Btf @hlt ?_
    refine AWP.skip ?_
    refine Ev ?_
    refine AWP.seq ?_
    refine AWP.block ?_
    refine Rgf (jn5 @e5 @e7 @hlm @hlt @hge) (fun E K hE hK => ?_)
    refine ⟨by omega, ?_⟩
    refine hK _ _ _ ?_; clear hE hK K E
    by_cases c1 : (200 : Int) < a.p.length
    · refine AWP.seqReg (by kernel_rfl) (fun E K hE hK => ?_); simp -implicitDefEqProofs only [go_sem, ↓reduceIte, Nat.reduceEqDiff, Nat.reduceAdd, Nat.reduceLT, Nat.reduceLeDiff, reduceCtorEq, Int.toNat_natCast, mkS_size, c1, encA]; refine hK _ _ _ ?_; clear hE hK K E
      refine Bt ?_
      refine Rk ?_
      refine AWP.ret ?_
      refine Ev ?_
      exact fin _ _ _ false (by exact Er) (Ouf @ho) (bad (by omega))
    by_cases c2 : (200 : Int) < a.q.length
    · refine AWP.seqReg (by kernel_rfl) (fun E K hE hK => ?_); simp -implicitDefEqProofs only [go_sem, ↓reduceIte, Nat.reduceEqDiff, Nat.reduceAdd, Nat.reduceLT, Nat.reduceLeDiff, reduceCtorEq, Int.toNat_natCast, mkS_size, c1, c2, encA]; refine hK _ _ _ ?_; clear hE hK K E
      refine Bt ?_
      refine Rk ?_
      refine AWP.ret ?_
      refine Ev ?_
      exact fin _ _ _ false (by exact Er) (Ouf @ho) (bad (by omega))
    by_cases c3 : (100 : Int) < a.data.length
    · refine AWP.seqReg (by kernel_rfl) (fun E K hE hK => ?_); simp -implicitDefEqProofs only [go_sem, ↓reduceIte, Nat.reduceEqDiff, Nat.reduceAdd, Nat.reduceLT, Nat.reduceLeDiff, reduceCtorEq, Int.toNat_natCast, mkS_size, c1, c2, c3, hdl, encA]; refine hK _ _ _ ?_; clear hE hK K E
      refine Bt ?_
      refine Rk ?_
      refine AWP.ret ?_
      refine Ev ?_
      exact fin _ _ _ false (by exact Er) (Ouf @ho) (bad (by omega))
    refine AWP.seqReg (by kernel_rfl) (fun E K hE hK => ?_); simp -implicitDefEqProofs only [go_sem, ↓reduceIte, Nat.reduceEqDiff, Nat.reduceAdd, Nat.reduceLT, Nat.reduceLeDiff, reduceCtorEq, Int.toNat_natCast, mkS_size, c1, c2, c3, hdl, encA]; refine hK _ _ _ ?_; clear hE hK K E
    refine Bf ?_
    refine AWP.skip ?_
    refine Ev ?_
    refine Raf (jn2 @e7 @hw1) (fun E K hE hK => ?_); refine hK _ _ _ ?_; clear hE hK K E
    refine ⟨l.length - (i + 1), by omega, i + 1, by omega, rfl, cutH_outer (Nat.le_refl _) (Ouf @ho) hlow, by exact Ecf @e0, by exact Ecf @e5, by exact Ecf @e6, by exact Er, ?_⟩
    intro x hx
    rw [List.take_add_one, List.getElem?_eq_getElem hi2, ha] at hx
    rcases List.mem_append.1 hx with hx | hx
    · exact hok x hx
    · simp at hx; subst hx; omega
  · refine Bff @hlt ?_
    refine AWP.exit ?_
    refine Ev ?_
    have hil : i = l.length := by omega
    rw [hil, List.take_length] at hok
    refine Rkf (jn2 @e0 @hlm) ?_
    refine AWP.ret ?_
    refine fin _ _ _ (decide ((l.length : Int) ≤ 40)) (by exact Er) ho ?_
    by_cases c4 : l.length ≤ 40
    · rw [decide_eq_true (by omega)]; exact (fewA_iff.2 ⟨hok, c4⟩).symm
    · rw [decide_eq_false (by omega)]
      cases hf : fewA l with
      | false => rfl
      | true => exact absurd (fewA_iff.1 hf).2 c4
abbrev MdL (m : Md) : List Cell := [.p (.v (.int .u64 m.v.gen)), .p (.sl 3 (m.v.l.map encK)), .p (.sl 8 (m.g.map encG)), .p (.sl 2 (m.log.map encD))]
abbrev RpL (r : Rp) : List Cell := [.p (.v (.int .i64 r.e)), .p (.v (.int .u64 r.gen)), .p (.v (.float .f64 r.rank)), .p (.sl 1 (r.data.map encO)), .p (.sl 1 (r.names.map encS))]
theorem lrun_ok {U : List S} {k : Nat} (m : Md) (l : List Ac) (o : OKM U k m) (hu : ∀ a ∈ l, inU U a) (hU : U.length ≤ 253) (hk : k + l.length ≤ 1024) (h : Heap) (b : Nat) :
    ACalls Tryz.prog 13 [MdV m, AcsV l] h b 0 (fun r h' => r = .tup [MdV (runM m l).1, RpsV (runM m l).2.1, BoolV (runM m l).2.2] ∧ h' = h) := by
  refine ACalls.enter Tryz.func13 rfl (by simp [Tryz.ntmps13]) (fun ι w hn H => ?_)
  have hlow := H.lowCells
  have hlm : (l.map encA).length = l.length := List.length_map _
  refine AWP.seqReg (by kernel_rfl) (fun E K hE hK => ?_); simp -implicitDefEqProofs only [go_sem, ↓reduceIte, Nat.reduceEqDiff, Nat.reduceAdd, Nat.reduceLT, Nat.reduceLeDiff, reduceCtorEq, Int.toNat_natCast, encM]; refine hK _ _ _ ?_; clear hE hK K E
  refine Rk ?_
  refine AWP.virt 7 (by exact Er) ?_
  refine AWP.seq ?_
  refine Rk ?_
  refine AWP.block ?_
  refine AWP.loopM 3 (fun c st => ∃ i mi out ver cap, i ≤ l.length ∧ c = l.length - i ∧ OKM U (k + i) mi ∧ out.length = i ∧ runM m l = ((runM mi (l.drop i)).1, out ++ (runM mi (l.drop i)).2.1, (runM mi (l.drop i)).2.2) ∧ (∀ id, id < b → st.h id = h id) ∧
    st.h b = some ⟨0, (encM mi).map .p⟩ ∧ (∃ x y z w, st.h (b + 1) = some ⟨0, [.p x, .p y, .p z, .p w]⟩) ∧ RowAt st.h (b + 2) ver cap 5 (out.map encR) ∧ st.t 2 = .one (.ptr b 0 0) ∧ st.t 4 = .one (.ptr (b + 1) 0 0) ∧ st.t 7 = .one (.win (b + 2) ver 0 out.length cap) ∧ st.t 13 = AcsV l ∧ st.t 14 = IntV l.length ∧ st.t 15 = IntV (i : Nat)) l.length rfl
    ⟨0, m, [], 0, 0, Nat.zero_le _, rfl, o, rfl, rfl, Ou, by (first | (simp -implicitDefEqProofs only [go_sem, ↓reduceIte, Nat.reduceEqDiff, Nat.reduceAdd, Nat.reduceLT, Nat.reduceLeDiff, reduceCtorEq, Int.toNat_natCast, encM]; first | done | rfl) | rfl), ⟨_, _, _, _, by exact Er⟩, RowAt.nil, by exact Er, by exact Er, by exact Er, by exact Er, by exact Erf @hlm, by exact Er⟩ ?_
  rintro c ⟨t, hh, n⟩ ⟨i, mi, out, ver, cap, hi, rfl, oi, hol, hrun, ho, hB, ⟨x, y, zz, ww, hZ⟩, hrow, e2, e4, e7, e13, e14, e15⟩ hn1
  simp only at ho hB hZ hrow e2 e4 e7 e13 e14 e15 hn1
  subst hn1
  refine Rkf (jn2 @e14 @e15) ?_
  refine AWP.seq ?_
  by_cases hlt : (i : Int) < l.length
  · have hw1 : IntKind.i64.wrap ((i : Int) + 1) = ((i + 1 : Nat) : Int) := by rw [wrap_i64 (by omega) (by omega)]; rfl
    have hi2 : i < l.length := by omega
    have hge := encA_getD l i hi2
    obtain ⟨a, ha⟩ : ∃ a, l[i] = a := ⟨_, rfl⟩
    have ham : a ∈ l := by rw [← ha]; exact List.getElem_mem hi2
    rw [ha] at hge
    have hdr : l.drop i = a :: l.drop (i + 1) := by rw [List.drop_eq_getElem_cons hi2, ha]
    refine Btf @hlt ?_
    refine AWP.skip ?_
    refine Ev ?_
    refine AWP.seq ?_
    refine AWP.block ?_
    refine Rgf (jn5 @e13 @e15 @hlm @hlt @hge) (fun E K hE hK => ?_)
    refine ⟨by omega, ?_⟩
    refine hK _ _ _ ?_; clear hE hK K E
    by_cases hok : okA a
    · have hd := mDo_ok mi a oi hU (by omega) hok (hu a ham).2.2
      obtain ⟨m2, hm2⟩ : ∃ m2, (doM mi a).1 = m2 := ⟨_, rfl⟩
      obtain ⟨rp, hrp⟩ : ∃ rp, (doM mi a).2 = rp := ⟨_, rfl⟩
      have oi2 := doM_ok oi hok (hu a ham) hU (by omega)
      have hr2 : runM mi (l.drop i) = ((runM m2 (l.drop (i + 1))).1, rp :: (runM m2 (l.drop (i + 1))).2.1, (runM m2 (l.drop (i + 1))).2.2) := by
        rw [hdr]
        show (if okA a then _ else _) = _
        rw [if_pos hok, hm2, hrp]
      rw [hm2] at hd oi2
      rw [hrp] at hd
      have hd' : ∀ h b, ACalls Tryz.prog 15 [MdV mi, AcV a] h b 0 (fun r h' => r = .tup [.agg [.p (.v (.int .u64 m2.v.gen)), .p (.sl 3 (m2.v.l.map encK)), .p (.sl 8 (m2.g.map encG)), .p (.sl 2 (m2.log.map encD))], .agg [.p (.v (.int .i64 rp.e)), .p (.v (.int .u64 rp.gen)), .p (.v (.float .f64 rp.rank)), .p (.sl 1 (rp.data.map encO)), .p (.sl 1 (rp.names.map encS))], IntV 0] ∧ h' = h) := hd
      refine AWP.seqReg (by kernel_rfl) (fun E K hE hK => ?_); simp -implicitDefEqProofs only [go_sem, ↓reduceIte, Nat.reduceEqDiff, Nat.reduceAdd, Nat.reduceLT, Nat.reduceLeDiff, reduceCtorEq, Int.toNat_natCast, e2, hB, encM]
      refine Us (hd' _ _) body_15 ?_
      refine hK _ _ _ ?_; clear hE hK K E
      refine AWP.seq ?_
      refine Rk ?_
      refine Bs ?_
      refine Rkf (jn2 @e2 @hB) ?_
      refine Raf @e7 (fun E K hE hK => ?_)
      have hes2 : okEs 5 ([rp].map encR) := okEs_rp [rp]
      refine BiR.of ?_
      refine app_rp (m := 1) (hrow.of_eq (by exact Er)) (okEs_rp out) hes2 (srcA_row (sz := 5) (m := 1) (es := [encR rp]) (T := []) 0 (upd_same _ _ _) hes2 (by simp) (.inl rfl)) (by rw [List.length_map]) rfl (by omega) (fun cap' T' z1 z2 => ?_)
      refine Ev ?_
      refine hK _ _ _ ?_; clear hE hK K E
      refine Raf (jn2 @e15 @hw1) (fun E K hE hK => ?_); refine hK _ _ _ ?_; clear hE hK K E
      refine ⟨(by decide : 3 ≤ 7), l.length - (i + 1), by omega, i + 1, m2, out ++ [rp], ver + 1, cap', by omega, rfl, oi2, by rw [List.length_append, hol]; rfl, ?_, cutH_outer (Nat.le_add_right _ _) (Ouf @ho) hlow, cutH_same (Nat.lt_add_of_pos_right (by decide)) (by exact Er) (by simp [lowCs, lowC]), ⟨x, y, zz, ww, cutH_same (Nat.add_lt_add_left (by decide) _) (by exact Erf @hZ) (by simp [lowCs, lowC])⟩, ?_, by refine Evf @e2 ?_; exact cutV_ptr (Nat.lt_add_of_pos_right (by decide)), by refine Evf @e4 ?_; exact cutV_ptr (Nat.add_lt_add_left (by decide) _), by refine Ev ?_; rw [List.length_append]; exact cutV_win (Nat.add_lt_add_left (by decide) _), by exact Ecf @e13, by exact Ecf @e14, by exact Er⟩
      · rw [hrun, hr2, List.append_assoc]; rfl
      · rw [List.map_append]
        exact (RowAt.new (by simpa using z1) z2).cut (Nat.add_lt_add_left (by decide) _)
    · have hd : ∀ h b, ACalls Tryz.prog 15 [MdV mi, AcV a] h b 0 (fun r h' => r = .tup [.agg [.p (.v (.int .u64 0)), .p (.sl 3 []), .p (.sl 8 []), .p (.sl 2 [])], .agg [.p (.v (.int .i64 0)), .p (.v (.int .u64 0)), .p (.v (.float .f64 0)), .p (.sl 1 []), .p (.sl 1 [])], IntV 1] ∧ h' = h) := mDoBad_ok mi a oi hU (by omega) hok
      have hr2 : runM mi (l.drop i) = (mi, [], false) := by
        rw [hdr]
        show (if okA a then _ else _) = _
        rw [if_neg hok]
      rw [hr2, List.append_nil] at hrun
      refine AWP.seqReg (by kernel_rfl) (fun E K hE hK => ?_); simp -implicitDefEqProofs only [go_sem, ↓reduceIte, Nat.reduceEqDiff, Nat.reduceAdd, Nat.reduceLT, Nat.reduceLeDiff, reduceCtorEq, Int.toNat_natCast, e2, hB, encM]
      refine Us (hd _ _) body_15 ?_
      refine hK _ _ _ ?_; clear hE hK K E
      refine AWP.seq ?_
      refine Rk ?_
      refine Bt ?_
      refine AWP.seqReg (by kernel_rfl) (fun E K hE hK => ?_); simp -implicitDefEqProofs only [go_sem, ↓reduceIte, Nat.reduceEqDiff, Nat.reduceAdd, Nat.reduceLT, Nat.reduceLeDiff, reduceCtorEq, Int.toNat_natCast, e2, e4, e7, hB, hZ, encM]; refine hK _ _ _ ?_; clear hE hK K E
      refine AWP.frzRow 5 (id := b + 2) (ver := ver) (cap := cap) (len := out.length) (by exact Er) (hrow.of_eq (by exact Er)) (okEs_rp out) (by rw [List.length_map]) ?_
      refine AWP.ret ?_
      refine Ends.pure hn H (fun id hid => ?_) (r0 := .tup [MdV mi, RpsV out, BoolV false]) (by rw [show Tryz.f13.results.toList = [.cell 4 32, .tmp 5, .tmp 6] from rfl]; (first | (simp -implicitDefEqProofs only [go_sem, ↓reduceIte, Nat.reduceEqDiff, Nat.reduceAdd, Nat.reduceLT, Nat.reduceLeDiff, reduceCtorEq, Int.toNat_natCast, e4, delH]; first | done | rfl) | rfl)) (frz_tup3 (frz_psM _) (.p _) (.v _)) ⟨by rw [hrun], rfl⟩
      have hid' : id < b := hid
      exact (delH_ne _ _ _ (by omega)).trans (by exact Ecf (jn6 (show ¬ id = b + 1 by omega) (show ¬ id = b + 2 by omega) (show ¬ id = b + 3 by omega) (show ¬ id = b + 4 by omega) (show ¬ id = b + 5 by omega) (ho id hid')))
  · refine Bff @hlt ?_
    refine AWP.exit ?_
    refine Ev ?_
    have hil : i = l.length := by omega
    have hdr : l.drop i = [] := by rw [hil, List.drop_length]
    rw [hdr] at hrun
    have hrun' : runM m l = (mi, out, true) := by rw [hrun]; show (mi, out ++ [], true) = _; rw [List.append_nil]
    refine AWP.seqReg (by kernel_rfl) (fun E K hE hK => ?_); simp -implicitDefEqProofs only [go_sem, ↓reduceIte, Nat.reduceEqDiff, Nat.reduceAdd, Nat.reduceLT, Nat.reduceLeDiff, reduceCtorEq, Int.toNat_natCast, e2, e4, e7, hB, hZ, encM]; refine hK _ _ _ ?_; clear hE hK K E
    refine AWP.frzRow 5 (id := b + 2) (ver := ver) (cap := cap) (len := out.length) (by exact Er) (hrow.of_eq (by exact Er)) (okEs_rp out) (by rw [List.length_map]) ?_
    refine AWP.ret ?_
    refine Ends.pure hn H (fun id hid => ?_) (r0 := .tup [MdV mi, RpsV out, BoolV true]) (by rw [show Tryz.f13.results.toList = [.cell 4 32, .tmp 5, .tmp 6] from rfl]; (first | (simp -implicitDefEqProofs only [go_sem, ↓reduceIte, Nat.reduceEqDiff, Nat.reduceAdd, Nat.reduceLT, Nat.reduceLeDiff, reduceCtorEq, Int.toNat_natCast, e4, delH]; first | done | rfl) | rfl)) (frz_tup3 (frz_psM _) (.p _) (.v _)) ⟨by rw [hrun'], rfl⟩
    have hid' : id < b := hid
    exact (delH_ne _ _ _ (by omega)).trans (by exact Ecf (jn6 (show ¬ id = b + 1 by omega) (show ¬ id = b + 2 by omega) (show ¬ id = b + 3 by omega) (show ¬ id = b + 4 by omega) (show ¬ id = b + 5 by omega) (ho id hid')))
end Go.Proofs.YtihgnpboabpchaaGreatDoor
namespace Go.Proofs.YtihgnpboabpchaaGreatDoor
set_option linter.unusedSimpArgs false
set_option linter.unusedVariables false
set_option linter.unnecessarySimpa false
open Go Am
set_option maxRecDepth 100000
theorem view_lessB {h : Heap} {D : Nat → Bool} {id ver sz len cap : Nat} {es : List (List PD)} {cs : List Cell} (hD : D id = true) (hb : h id = some ⟨ver, cs⟩) (ho : okEs sz es) (hl : lessL cs (es.flatten.map .p)) (hlen : es.length = len) :
    ViewC h D (.win id ver 0 len cap) (.p (.sl sz es)) := by
  have hat : ∀ (i : Nat) (e : List PD), es[i]? = some e → ∀ (j : Nat) (x : PD), e[j]? = some x → ∃ c, cs[i * sz + j]? = some c ∧ lessC c (.p x) := by
    intro i e he j x hx
    have h1 := row_cells ho ver [] i e he j x hx
    rw [Nat.zero_add] at h1
    have h2 : (es.flatten.map Cell.p)[i * sz + j]? = some (.p x) := by
      have : (rowB ver es []).cells = es.flatten.map Cell.p := List.append_nil _
      rw [this] at h1; exact h1
    have hlt : i * sz + j < cs.length := by rw [hl.len]; exact (List.getElem?_eq_some_iff.1 h2).1
    exact ⟨cs[i * sz + j], List.getElem?_eq_getElem hlt, hl.at (List.getElem?_eq_getElem hlt) h2⟩
  refine .p (.win (blk := ⟨ver, cs⟩) (fun i k => cs.getD (i * sz + k) .junk) hD hb rfl hlen (fun e he => ho.len e he) (fun i e he j x hx => ?_) (fun i e he j x hx => ?_))
  · obtain ⟨c, hc, _⟩ := hat i e he j x hx
    show cs[0 + (i * sz + j)]? = _
    rw [Nat.zero_add, hc]; simp [List.getD, hc]
  · obtain ⟨c, hc, hlc⟩ := hat i e he j x hx
    have e1 : cs.getD (i * sz + j) .junk = c := by simp [List.getD, hc]
    simp only [e1]
    rcases hlc with rfl | ⟨s, rfl, h2⟩
    · exact .p x
    · injection h2 with h2; subst h2; exact .nil s
def liveA : List Ac := [⟨0, 1, [], [], 0, []⟩, ⟨0, 8, [], [], 0, []⟩, ⟨1, 1, [], [], 0, []⟩, ⟨1, 3, [97], [], 0, []⟩, ⟨1, 9, [], [], 0, []⟩, ⟨0, 9, [], [], 0, []⟩]
def liveB (r : Md × List Rp × Bool) : Bool := r.2.2 && (decide (r.2.1.length = 6) && (decide ((r.2.1.getD 4 zR).e = 0) && (decide ((r.2.1.getD 4 zR).gen = 2) && (decide ((r.2.1.getD 5 zR).e = 9) && decide (r.1.v.gen = 2)))))
theorem live_run : liveB (runM newM liveA) = true := by decide +kernel
theorem liveB_iff {r : Md × List Rp × Bool} (h : liveB r = true) : r.2.2 = true ∧ r.2.1.length = 6 ∧ (r.2.1.getD 4 zR).e = 0 ∧ (r.2.1.getD 4 zR).gen = 2 ∧ (r.2.1.getD 5 zR).e = 9 ∧ r.1.v.gen = 2 := by
  unfold liveB at h
  simpa using h
theorem inU_live : ∀ a ∈ liveA, inU [[], [97]] a := by
  intro a ha
  simp only [liveA, List.mem_cons, List.not_mem_nil, or_false] at ha
  rcases ha with rfl | rfl | rfl | rfl | rfl | rfl <;> exact ⟨by simp, by simp, by decide⟩
theorem llive_ok (h : Heap) (b : Nat) : ACalls Tryz.prog 11 [] h b 0 (fun r h' => r = BoolV true ∧ h' = h) := by
  refine ACalls.enter Tryz.func11 rfl (by simp [Tryz.ntmps11]) (fun ι w hn H => ?_)
  obtain ⟨v1, v2, v3, v4, v5, v6⟩ := liveB_iff live_run
  have cr : ∀ h b, ACalls Tryz.prog 13 [MdV newM, AcsV liveA] h b 0 (fun r h' => r = .tup [MdV (runM newM liveA).1, RpsV (runM newM liveA).2.1, BoolV (runM newM liveA).2.2] ∧ h' = h) := lrun_ok newM liveA (new_ok [[], [97]]) inU_live (by decide) (by decide)
  rw [v1] at cr
  generalize runM newM liveA = rr at cr v1 v2 v3 v4 v5 v6
  obtain ⟨mm, rps, ok⟩ := rr
  simp only at cr v1 v2 v3 v4 v5 v6
  have cr' : ∀ h b, ACalls Tryz.prog 13 [MdV newM, AcsV liveA] h b 0 (fun r h' => r = .tup [.agg (MdL mm), RpsV rps, BoolV true] ∧ h' = h) := cr
  have hrl : (rps.map encR).length = 6 := by rw [List.length_map]; exact v2
  have hrI : (((rps.map encR).length : Nat) : Int) = 6 := by rw [hrl]; rfl
  have g4 : (rps.map encR).getD 4 [] = encR (rps.getD 4 zR) := by
    have : 4 < rps.length := by omega
    simp [List.getD, this]
  have g5 : (rps.map encR).getD 5 [] = encR (rps.getD 5 zR) := by
    have : 5 < rps.length := by omega
    simp [List.getD, this]
  have b1 : (1 : Int) = 1 := rfl
  refine Rk ?_
  refine Rg (fun E K hE hK => ?_)
  refine Us (mNew_ok _ _) body_14 ?_
  refine ⟨by decide, by decide, by decide, by decide, by decide, ?_⟩
  refine CallR.use ((cr' _ _).seal (fun i => decide (i = b)) (.cons (.same _) (.cons (.one (view_lessB (by simp) (upd_same _ _ _) (okEs_ac liveA) ⟨.inl rfl, .inl rfl, .inl rfl, .inl rfl, .inl rfl, .nil 1, .inl rfl, .inl rfl, .inl rfl, .inl rfl, .inl rfl, .nil 1, .inl rfl, .inl rfl, .inl rfl, .inl rfl, .inl rfl, .nil 1, .inl rfl, .inl rfl, .inl rfl, .inl rfl, .inl rfl, .nil 1, .inl rfl, .inl rfl, .inl rfl, .inl rfl, .inl rfl, .nil 1, .inl rfl, .inl rfl, .inl rfl, .inl rfl, .inl rfl, .nil 1, trivial⟩ rfl)) .nil))) body_13 ?_
  rintro _ _ ⟨rfl, rfl⟩
  refine Ev ?_
  refine hK _ _ _ ?_; clear hE hK K E
  have c06 : ((4 : Int) < 6) = True := by decide
  have c05 : ((5 : Int) < 6) = True := by decide
  have s6 : (((6 : Nat) : Int) = 6) = True := by decide
  have t4 : Int.toNat 4 = 4 := rfl
  have t5 : Int.toNat 5 = 5 := rfl
  refine AWP.seqReg (by kernel_rfl) (fun E K hE hK => ?_); simp -implicitDefEqProofs only [go_sem, ↓reduceIte, Nat.reduceEqDiff, Nat.reduceAdd, Nat.reduceLT, Nat.reduceLeDiff, reduceCtorEq, Int.toNat_natCast, hrl, s6, decide_true, t4, t5, g4, g5, v3, v4, v5, v6, encR]
  refine ⟨⟨by decide, by decide⟩, ⟨by decide, by decide⟩, ⟨by decide, by decide⟩, ?_⟩
  refine hK _ _ _ ?_; clear hE hK K E
  refine AWP.ret ?_
  refine Ends.pure hn H (fun id hid => ?_) (r0 := BoolV true) (by rw [show Tryz.f11.results.toList = [.tmp 0] from rfl]; exact Er) (.v _) ⟨rfl, rfl⟩
  have hid' : id < b := hid
  simp -implicitDefEqProofs only [go_sem, ↓reduceIte, Nat.reduceEqDiff, Nat.reduceAdd, Nat.reduceLT, Nat.reduceLeDiff, reduceCtorEq, Int.toNat_natCast, delP, show ¬ id = b by omega, show ¬ id = b + 1 by omega, decide_false]
end Go.Proofs.YtihgnpboabpchaaGreatDoor
namespace Go.Proofs.YtihgnpboabpchaaGreatDoor
set_option linter.unusedSimpArgs false
set_option linter.unusedVariables false
set_option linter.unnecessarySimpa false
open Go Am
set_option maxRecDepth 100000
theorem mDoE_ok {U : List S} {k : Nat} (m : Md) (a : Ac) (o : OKM U k m) (hU : U.length ≤ 253) (hk : k ≤ 1024) (ha : okA a) (had : a.data.length ≤ 1000000) (h : Heap) (b : Nat) :
    ACalls Tryz.prog 15 [MdV m, AcV a] h b 0 (fun r h' => r = .tup [.agg (MdL (doM m a).1), .agg (RpL (doM m a).2), IntV 0] ∧ h' = h) := mDo_ok m a o hU hk ha had h b
theorem mDoBadE_ok {U : List S} {k : Nat} (m : Md) (a : Ac) (o : OKM U k m) (hU : U.length ≤ 253) (hk : k ≤ 1024) (ha : ¬ okA a) (h : Heap) (b : Nat) :
    ACalls Tryz.prog 15 [MdV m, AcV a] h b 0 (fun r h' => r = .tup [.agg (MdL zM), .agg (RpL zR), IntV 1] ∧ h' = h) := mDoBad_ok m a o hU hk ha h b
theorem mNewE_ok (h : Heap) (b : Nat) : ACalls Tryz.prog 14 [] h b 0 (fun r h' => r = .agg (MdL newM) ∧ h' = h) := mNew_ok h b
end Go.Proofs.YtihgnpboabpchaaGreatDoor
namespace Go.Proofs.YtihgnpboabpchaaGreatDoor
set_option linter.unusedSimpArgs false
set_option linter.unusedVariables false
set_option linter.unnecessarySimpa false
open Go Am
set_option maxRecDepth 100000
theorem lrunE_ok {U : List S} {k : Nat} (m : Md) (l : List Ac) (o : OKM U k m) (hu : ∀ a ∈ l, inU U a) (hU : U.length ≤ 253) (hk : k + l.length ≤ 1024) (h : Heap) (b : Nat) :
    ACalls Tryz.prog 13 [MdV m, AcsV l] h b 0 (fun r h' => r = .tup [.agg (MdL (runM m l).1), RpsV (runM m l).2.1, BoolV (runM m l).2.2] ∧ h' = h) := lrun_ok m l o hu hU hk h b
abbrev ac0 (w k : Int) : Ac := ⟨w, k, [], [], 0, []⟩
theorem run2 (m : Md) (w k k' : Int) (h1 : okA (ac0 w k)) (h2 : okA (ac0 w k')) : runM m [ac0 w k, ac0 w k'] = ((doM (doM m (ac0 w k)).1 (ac0 w k')).1, [(doM m (ac0 w k)).2, (doM (doM m (ac0 w k)).1 (ac0 w k')).2], true) := by
  show (if okA (ac0 w k) then _ else _) = _
  rw [if_pos h1]
  show (((if okA (ac0 w k') then _ else _ : Md × List Rp × Bool)).1, _ :: ((if okA (ac0 w k') then _ else _ : Md × List Rp × Bool)).2.1, ((if okA (ac0 w k') then _ else _ : Md × List Rp × Bool)).2.2) = _
  rw [if_pos h2]; rfl
theorem inU_0 {U : List S} (h : ([] : S) ∈ U) (w k : Int) : inU U (ac0 w k) := ⟨h, h, Nat.zero_le _⟩
theorem seal2 {m : Md} {w k k' : Int} {v : AV} (c : ∀ h b, ACalls Tryz.prog 13 [MdV m, AcsV [ac0 w k, ac0 w k']] h b 0 (fun r h' => r = v ∧ h' = h)) (h : Heap) (b id : Nat)
    (hb : h id = some ⟨0, [.p (.v (.int .i64 w)), .p (.v (.int .i64 k)), .p (.v (.string ByteArray.empty)), .p (.v (.string ByteArray.empty)), .p (.v (.float .f64 0)), .p (.v (.slice none 0 0)), .p (.v (.int .i64 w)), .p (.v (.int .i64 k')), .p (.v (.string ByteArray.empty)), .p (.v (.string ByteArray.empty)), .p (.v (.float .f64 0)), .p (.v (.slice none 0 0))]⟩) :
    ACalls Tryz.prog 13 [MdV m, .one (.win id 0 0 2 2)] h b 0 (fun r h' => r = v ∧ h' = delP h (fun i => decide (i = id))) :=
  (c _ _).seal (fun i => decide (i = id)) (.cons (.same _) (.cons (.one (view_lessB (by simp) hb (okEs_ac [ac0 w k, ac0 w k']) ⟨.inl rfl, .inl rfl, .inl rfl, .inl rfl, .inl rfl, .nil 1, .inl rfl, .inl rfl, .inl rfl, .inl rfl, .inl rfl, .nil 1, trivial⟩ rfl)) .nil))
end Go.Proofs.YtihgnpboabpchaaGreatDoor
namespace Go.Proofs.YtihgnpboabpchaaGreatDoor
set_option linter.unusedSimpArgs false
set_option linter.unusedVariables false
set_option linter.unnecessarySimpa false
open Go Am
set_option maxRecDepth 100000
theorem now_len {U : List S} {k : Nat} {m : Md} (o : OKM U k m) (hU : U.length ≤ 253) (i : Nat) : (gAt m i).now.l.length ≤ 1000000 := by
  unfold gAt
  rw [List.getD_eq_getElem?_getD]
  cases hg : m.g[i]? with
  | none => decide
  | some g =>
    rcases o.g g (List.mem_of_getElem? hg) with rfl | og
    · decide
    · have := og.now.len; show g.now.l.length ≤ _; omega
def lookB (k : Int) : Bool := decide (k = 6) || (decide (k = 7) || decide (k = 8))
def lookI (m m2 : Md) (rp : Rp) (a : Ac) (h : Heap) (b : Nat) (st : St) : Prop :=
  (∀ id, id < b → st.h id = h id) ∧ st.h b = some ⟨0, (encA a).map .p⟩ ∧ st.h (b + 2) = some ⟨0, MdL m⟩ ∧ st.h (b + 3) = some ⟨0, MdL m2⟩ ∧ st.h (b + 4) = some ⟨0, RpL rp⟩ ∧ st.t 3 = .one (.ptr b 0 0) ∧ st.t 5 = BoolV true ∧ st.t 6 = .one (.ptr (b + 2) 0 0) ∧ st.t 12 = .one (.ptr (b + 3) 0 0) ∧ st.t 13 = .one (.ptr (b + 4) 0 0)
end Go.Proofs.YtihgnpboabpchaaGreatDoor
namespace Go.Proofs.YtihgnpboabpchaaGreatDoor
set_option linter.unusedSimpArgs false
set_option linter.unusedVariables false
set_option linter.unnecessarySimpa false
open Go Am
set_option maxRecDepth 100000
theorem run1 (m : Md) (a : Ac) (h1 : okA a) : runM m [a] = ((doM m a).1, [(doM m a).2], true) := by
  show (if okA a then _ else _) = _
  rw [if_pos h1]; rfl
theorem seal1 {m : Md} {a : Ac} {v : AV} (c : ∀ h b, ACalls Tryz.prog 13 [MdV m, AcsV [a]] h b 0 (fun r h' => r = v ∧ h' = h)) (h : Heap) (b id : Nat) (hb : h id = some ⟨0, (encA a).map .p⟩) :
    ACalls Tryz.prog 13 [MdV m, .one (.win id 0 0 1 1)] h b 0 (fun r h' => r = v ∧ h' = delP h (fun i => decide (i = id))) :=
  (c _ _).seal (fun i => decide (i = id)) (.cons (.same _) (.cons (.one (view_rowT (h := h) (D := fun i => decide (i = id)) (id := id) (ver := 0) (sz := 6) (m := 1) (j := 0) (off := 0) (cap := 1) (es := [encA a]) (T := []) (by simp) (by rw [hb]; rfl) (okEs_ac [a]) (by simp) rfl)) .nil))
theorem few1 (a : Ac) (hh : Heap) (id bb : Nat) (hb : hh id = some ⟨0, (encA a).map .p⟩) : ACalls Tryz.prog 12 [.one (.win id 0 0 1 1)] hh bb 0 (fun r h' => r = BoolV (fewA [a]) ∧ h' = hh) := by
  have vw := view_rowT (h := hh) (D := fun _ => true) (id := id) (ver := 0) (sz := 6) (m := 1) (j := 0) (off := 0) (cap := 1) (es := [encA a]) (T := []) rfl (by rw [hb]; rfl) (okEs_ac [a]) (by simp) rfl
  exact (lfew_ok [a] (by simp) noH bb).lend (.cons (.one vw) .nil) (.one _)
theorem rSnap_ok (bf l : List Ac) (a : Ac) (hbl : bf.length ≤ 9223372036854775807) (hl : l.length ≤ 9223372036854775807) (h : Heap) (b : Nat) : ACalls Tryz.prog 5 [AcsV bf, AcsV l, AcV a] h b 0 (fun r h' => r = BoolV true ∧ h' = h) := by
  refine ACalls.enter Tryz.func5 rfl (by simp [Tryz.ntmps5]) (fun ι w hn H => ?_)
  have hlow := H.lowCells
  have hlm : (l.map encA).length = l.length := List.length_map _
  have fin : ∀ (t : Nat → AV) (hh : Heap) (n : Nat), t 6 = BoolV true → (∀ id, id < b → hh id = h id) → Am.Ends Tryz.prog ⟨Tryz.f5.ntmps, b, ι, h, w, x0⟩ Tryz.f5 0 (fun r h' => r = BoolV true ∧ h' = h) ⟨t, hh, n⟩ := by
    intro t hh n ht ho
    exact Ends.pure hn H ho (r0 := BoolV true) (by rw [show Tryz.f5.results.toList = [.tmp 6] from rfl]; exact Ecf @ht) (.v _) ⟨rfl, rfl⟩
  refine AWP.seqReg (by kernel_rfl) (fun E K hE hK => ?_); simp -implicitDefEqProofs only [go_sem, ↓reduceIte, Nat.reduceEqDiff, Nat.reduceAdd, Nat.reduceLT, Nat.reduceLeDiff, reduceCtorEq, Int.toNat_natCast, encA]; refine hK _ _ _ ?_; clear hE hK K E
  refine Rg (fun E K hE hK => ?_)
  refine Us (llive_ok _ _) body_11 ?_
  refine hK _ _ _ ?_; clear hE hK K E
  cases hf : fewA bf
  · refine AWP.seq ?_
    refine Rg (fun E K hE hK => ?_)
    refine Us (lfew_ok bf hbl _ _) body_12 ?_
    refine Evf @hf ?_
    refine hK _ _ _ ?_; clear hE hK K E
    refine Bt ?_
    refine Rk ?_
    refine AWP.ret ?_
    refine Ev ?_
    exact fin _ _ _ (by exact Er) Ou
  cases hf' : fewA l
  · refine AWP.seq ?_
    refine Rg (fun E K hE hK => ?_)
    refine Us (lfew_ok bf hbl _ _) body_12 ?_
    refine Evf @hf ?_
    refine Us (lfew_ok l hl _ _) body_12 ?_
    refine Evf @hf' ?_
    refine hK _ _ _ ?_; clear hE hK K E
    refine Bt ?_
    refine Rk ?_
    refine AWP.ret ?_
    refine Ev ?_
    exact fin _ _ _ (by exact Er) Ou
  cases hfa : fewA [a]
  · refine AWP.seq ?_
    refine Rg (fun E K hE hK => ?_)
    refine Us (lfew_ok bf hbl _ _) body_12 ?_
    refine Evf @hf ?_
    refine Us (lfew_ok l hl _ _) body_12 ?_
    simp -implicitDefEqProofs only [go_sem, ↓reduceIte, Nat.reduceEqDiff, Nat.reduceAdd, Nat.reduceLT, Nat.reduceLeDiff, reduceCtorEq, Int.toNat_natCast, hf', encA]
    refine Us (few1 a _ (b + 1) _ (upd_same _ _ _)) body_12 ?_
    refine Evf @hfa ?_
    refine hK _ _ _ ?_; clear hE hK K E
    refine Bt ?_
    refine Rk ?_
    refine AWP.ret ?_
    refine Ev ?_
    exact fin _ _ _ (by exact Er) Ou
  cases hlk : lookB a.kind
  · have k6 : (a.kind = 6) = False := eq_false (fun e => by rw [e] at hlk; cases hlk)
    have k7 : (a.kind = 7) = False := eq_false (fun e => by rw [e] at hlk; cases hlk)
    have k8 : (a.kind = 8) = False := eq_false (fun e => by rw [e] at hlk; cases hlk)
    refine AWP.seq ?_
    refine Rg (fun E K hE hK => ?_)
    refine Us (lfew_ok bf hbl _ _) body_12 ?_
    refine Evf @hf ?_
    refine Us (lfew_ok l hl _ _) body_12 ?_
    simp -implicitDefEqProofs only [go_sem, ↓reduceIte, Nat.reduceEqDiff, Nat.reduceAdd, Nat.reduceLT, Nat.reduceLeDiff, reduceCtorEq, Int.toNat_natCast, hf', encA]
    refine Us (few1 a _ (b + 1) _ (upd_same _ _ _)) body_12 ?_
    simp -implicitDefEqProofs only [go_sem, ↓reduceIte, Nat.reduceEqDiff, Nat.reduceAdd, Nat.reduceLT, Nat.reduceLeDiff, reduceCtorEq, Int.toNat_natCast, hfa, k6, k7, k8, decide_false, encA]
    refine hK _ _ _ ?_; clear hE hK K E
    refine Bt ?_
    refine Rk ?_
    refine AWP.ret ?_
    refine Ev ?_
    exact fin _ _ _ (by exact Er) Ou
  have hL : lookK a.kind := by unfold lookB at hlk; unfold lookK; simpa [or_assoc] using hlk
  obtain ⟨hb1, hb2⟩ := fewA_iff.1 hf
  obtain ⟨hf1, hf2⟩ := fewA_iff.1 hf'
  obtain ⟨ha1, _⟩ := fewA_iff.1 hfa
  obtain ⟨U, hUe⟩ : ∃ U, U = [] :: ([a.p, a.q] ++ (namesA bf ++ namesA l)) := ⟨_, rfl⟩
  have hU : U.length ≤ 253 := by rw [hUe, List.length_cons, List.length_append, List.length_append, namesA_len, namesA_len]; simp only [List.length_cons, List.length_nil]; omega
  have hub : ∀ x ∈ bf, inU U x := fun x hx => by rw [hUe]; exact ⟨List.mem_cons_of_mem _ (List.mem_append_right _ (List.mem_append_left _ (namesA_mem hx).1)), List.mem_cons_of_mem _ (List.mem_append_right _ (List.mem_append_left _ (namesA_mem hx).2)), by have := (hb1 x hx).2.2; omega⟩
  have hu : ∀ x ∈ l, inU U x := fun x hx => by rw [hUe]; exact ⟨List.mem_cons_of_mem _ (List.mem_append_right _ (List.mem_append_right _ (namesA_mem hx).1)), List.mem_cons_of_mem _ (List.mem_append_right _ (List.mem_append_right _ (namesA_mem hx).2)), by have := (hf1 x hx).2.2; omega⟩
  have hu0 : ([] : S) ∈ U := by rw [hUe]; exact List.mem_cons_self
  obtain ⟨a', hae⟩ : ∃ a' : Ac, a' = { a with who := 63 } := ⟨_, rfl⟩
  have hua : inU U a' := by rw [hae, hUe]; exact ⟨by simp, by simp, by have := (ha1 a (by simp)).2.2; show a.data.length ≤ _; omega⟩
  have hL' : lookK a'.kind := by rw [hae]; exact hL
  have hwa : a'.who = 63 := by rw [hae]
  have hok : okA a' := by
    have : a'.kind = 6 ∨ a'.kind = 7 ∨ a'.kind = 8 := hL'
    unfold okA; rw [hwa]; omega
  refine AWP.cut (fun st => st.n = 2 ∧ (∀ id, id < b → st.h id = h id) ∧ st.h b = some ⟨0, (encA a).map .p⟩ ∧ st.t 0 = AcsV bf ∧ st.t 1 = AcsV l ∧ st.t 5 = .one (.ptr b 0 0) ∧ st.t 7 = BoolV true) ?_ ?_
  · rcases hL with k | k | k
    · have k6 : (a.kind = 6) = True := eq_true k
      refine Rg (fun E K hE hK => ?_)
      refine Us (lfew_ok bf hbl _ _) body_12 ?_
      refine Evf @hf ?_
      refine Us (lfew_ok l hl _ _) body_12 ?_
      simp -implicitDefEqProofs only [go_sem, ↓reduceIte, Nat.reduceEqDiff, Nat.reduceAdd, Nat.reduceLT, Nat.reduceLeDiff, reduceCtorEq, Int.toNat_natCast, hf', encA]
      refine Us (few1 a _ (b + 1) _ (upd_same _ _ _)) body_12 ?_
      simp -implicitDefEqProofs only [go_sem, ↓reduceIte, Nat.reduceEqDiff, Nat.reduceAdd, Nat.reduceLT, Nat.reduceLeDiff, reduceCtorEq, Int.toNat_natCast, hfa, k6, decide_true, decide_false, encA]
      refine hK _ _ _ ?_; clear hE hK K E
      refine Bf ?_
      refine AWP.skip ?_
      exact ⟨rfl, rfl, Ou, by exact Er, by exact Er, by exact Er, by exact Er, by exact Er⟩
    · have k6 : (a.kind = 6) = False := eq_false (by omega)
      have k7 : (a.kind = 7) = True := eq_true k
      refine Rg (fun E K hE hK => ?_)
      refine Us (lfew_ok bf hbl _ _) body_12 ?_
      refine Evf @hf ?_
      refine Us (lfew_ok l hl _ _) body_12 ?_
      simp -implicitDefEqProofs only [go_sem, ↓reduceIte, Nat.reduceEqDiff, Nat.reduceAdd, Nat.reduceLT, Nat.reduceLeDiff, reduceCtorEq, Int.toNat_natCast, hf', encA]
      refine Us (few1 a _ (b + 1) _ (upd_same _ _ _)) body_12 ?_
      simp -implicitDefEqProofs only [go_sem, ↓reduceIte, Nat.reduceEqDiff, Nat.reduceAdd, Nat.reduceLT, Nat.reduceLeDiff, reduceCtorEq, Int.toNat_natCast, hfa, k6, k7, decide_true, decide_false, encA]
      refine hK _ _ _ ?_; clear hE hK K E
      refine Bf ?_
      refine AWP.skip ?_
      exact ⟨rfl, rfl, Ou, by exact Er, by exact Er, by exact Er, by exact Er, by exact Er⟩
    · have k6 : (a.kind = 6) = False := eq_false (by omega)
      have k7 : (a.kind = 7) = False := eq_false (by omega)
      have k8 : (a.kind = 8) = True := eq_true k
      refine Rg (fun E K hE hK => ?_)
      refine Us (lfew_ok bf hbl _ _) body_12 ?_
      refine Evf @hf ?_
      refine Us (lfew_ok l hl _ _) body_12 ?_
      simp -implicitDefEqProofs only [go_sem, ↓reduceIte, Nat.reduceEqDiff, Nat.reduceAdd, Nat.reduceLT, Nat.reduceLeDiff, reduceCtorEq, Int.toNat_natCast, hf', encA]
      refine Us (few1 a _ (b + 1) _ (upd_same _ _ _)) body_12 ?_
      simp -implicitDefEqProofs only [go_sem, ↓reduceIte, Nat.reduceEqDiff, Nat.reduceAdd, Nat.reduceLT, Nat.reduceLeDiff, reduceCtorEq, Int.toNat_natCast, hfa, k6, k7, k8, decide_true, decide_false, encA]
      refine hK _ _ _ ?_; clear hE hK K E
      refine Bf ?_
      refine AWP.skip ?_
      exact ⟨rfl, rfl, Ou, by exact Er, by exact Er, by exact Er, by exact Er, by exact Er⟩
  rintro ⟨t, h1, n⟩ ⟨hn1, ho, hA, e0, e1, e5, e7⟩
  simp only at hn1 ho hA e0 e1 e5 e7
  subst hn1
  have hr0 := lrunE_ok newM bf (new_ok U) hub hU (by omega)
  have o0 := runM_ok (new_ok U) hub hU (by omega)
  generalize runM newM bf = r0 at hr0 o0
  obtain ⟨m0, rps0, ok0⟩ := r0
  simp only at hr0 o0
  refine Rgf @e0 (fun E K hE hK => ?_)
  refine Us (mNewE_ok _ _) body_14 ?_
  refine Evf @e0 ?_
  refine Us (hr0 _ _) body_13 ?_
  refine hK _ _ _ ?_; clear hE hK K E
  refine AWP.seq ?_
  cases ok0
  · refine Rk ?_
    refine Bt ?_
    refine Rkf @e7 ?_
    refine AWP.ret ?_
    refine Ev ?_
    exact fin _ _ _ (by exact Er) (Ouf @ho)
  refine Rk ?_
  refine Bs ?_
  have k1 : okA (ac0 63 10) := by decide
  have k2 : okA (ac0 63 2) := by decide
  obtain ⟨b1, b2, b3⟩ := begin_at o0 63 (by decide) 2 (.inr rfl) [] [] 0 []
  have hu2 : ∀ x ∈ [ac0 63 10, ac0 63 2], inU U x := fun x hx => by
    simp only [List.mem_cons, List.not_mem_nil, or_false] at hx
    rcases hx with rfl | rfl <;> exact inU_0 hu0 _ _
  have hr1 := lrunE_ok m0 [ac0 63 10, ac0 63 2] o0 hu2 hU (by simp only [List.length_cons, List.length_nil]; omega)
  have o1 := runM_ok o0 hu2 hU (by simp only [List.length_cons, List.length_nil]; omega)
  rw [run2 m0 63 10 2 k1 k2] at hr1 o1
  simp only at hr1 o1
  obtain ⟨m1, hm1⟩ : ∃ m1, (doM (doM m0 (ac0 63 10)).1 (ac0 63 2)).1 = m1 := ⟨_, rfl⟩
  rw [hm1] at hr1 o1
  refine AWP.seqReg (by kernel_rfl) (fun E K hE hK => ?_); simp -implicitDefEqProofs only [go_sem, ↓reduceIte, Nat.reduceEqDiff, Nat.reduceAdd, Nat.reduceLT, Nat.reduceLeDiff, reduceCtorEq, Int.toNat_natCast, e5, hA, encA]; refine hK _ _ _ ?_; clear hE hK K E
  refine Rg (fun E K hE hK => ?_)
  refine ⟨by decide, ?_⟩
  refine CallR.use (seal2 hr1 _ _ (b + 3) (upd_same _ _ _)) body_13 ?_
  rintro _ _ ⟨rfl, rfl⟩
  simp -implicitDefEqProofs only [go_sem, ↓reduceIte, Nat.reduceEqDiff, Nat.reduceAdd, Nat.reduceLT, Nat.reduceLeDiff, reduceCtorEq, Int.toNat_natCast, delP, decide_false, show ¬ b + 2 = b + 3 by omega]
  refine hK _ _ _ ?_; clear hE hK K E
  refine AWP.seq ?_
  refine Rk ?_
  refine Bs ?_
  refine Am.AWP.genT (fun st => st.n = 4 ∧ (∀ id, id < b → st.h id = h id) ∧ st.h b = some ⟨0, (encA a').map .p⟩ ∧ st.h (b + 2) = some ⟨0, MdL m1⟩ ∧ st.t 1 = AcsV l ∧ st.t 5 = .one (.ptr b 0 0) ∧ st.t 7 = BoolV true ∧ st.t 8 = .one (.ptr (b + 2) 0 0)) ⟨rfl, fun id hid => by have hid' : id < b := hid; simp -implicitDefEqProofs only [go_sem, ↓reduceIte, Nat.reduceEqDiff, Nat.reduceAdd, Nat.reduceLT, Nat.reduceLeDiff, reduceCtorEq, Int.toNat_natCast, delP, decide_false, show ¬ id = b by omega, show ¬ id = b + 2 by omega, show ¬ id = b + 3 by omega, ho id hid'], by rw [hae]; (first | (simp -implicitDefEqProofs only [go_sem, ↓reduceIte, Nat.reduceEqDiff, Nat.reduceAdd, Nat.reduceLT, Nat.reduceLeDiff, reduceCtorEq, Int.toNat_natCast, delP, decide_false, show ¬ b = b + 3 by omega]; first | done | rfl) | rfl), by (first | (simp -implicitDefEqProofs only [go_sem, ↓reduceIte, Nat.reduceEqDiff, Nat.reduceAdd, Nat.reduceLT, Nat.reduceLeDiff, reduceCtorEq, Int.toNat_natCast, delP, decide_false, show ¬ b + 2 = b + 3 by omega]; first | done | rfl) | rfl), by exact Erf @e1, by exact Erf @e5, by exact Erf @e7, by exact Er⟩ ?_
  clear ho hA e0 e1 e5 e7
  rintro ⟨t, h2, n⟩ ⟨hn1, ho, hA, hB, e1, e5, e7, e8⟩
  simp only at hn1 ho hA hB e1 e5 e7 e8
  subst hn1
  have h63 : a'.who.toNat = 63 := by rw [hwa]; rfl
  have hrep : ∀ m : Md, gAt m 63 = gAt m1 63 → (doM m a').2 = (doM m1 a').2 := fun m e => by rw [do_look hL', do_look hL', h63, e]
  obtain ⟨rp, hrp⟩ : ∃ rp, (doM m1 a').2 = rp := ⟨_, rfl⟩
  rw [hrp] at hrep
  have hnl : rp.names.length ≤ 1000000 := by rw [← hrp]; exact Nat.le_trans (act_names m1.v m1.log (gAt m1 a'.who.toNat) a') (now_len o1 hU _)
  have hua1 : ∀ x ∈ [a'], inU U x := fun x hx => by rw [List.mem_singleton.1 hx]; exact hua
  have hra := lrunE_ok m1 [a'] o1 hua1 hU (by simp only [List.length_cons, List.length_nil]; omega)
  obtain ⟨rps, hrps⟩ : ∃ rps, rps = [rp] := ⟨_, rfl⟩
  have hl1 : (rps.map encR).length = 1 := by rw [hrps]; rfl
  have g0 : (rps.map encR).getD 0 [] = encR rp := by rw [hrps]; rfl
  rw [run1 m1 a' hok, hrp, ← hrps] at hra
  simp only at hra
  generalize (doM m1 a').1 = ma at hra
  have s11 : (((1 : Nat) : Int) = 1) = True := by decide
  refine AWP.seqReg (by kernel_rfl) (fun E K hE hK => ?_); simp -implicitDefEqProofs only [go_sem, ↓reduceIte, Nat.reduceEqDiff, Nat.reduceAdd, Nat.reduceLT, Nat.reduceLeDiff, reduceCtorEq, Int.toNat_natCast, e5, e8, hA, hB, encA]
  refine CallR.use (seal1 hra _ _ (b + 4) (upd_same _ _ _)) body_13 ?_
  rintro _ _ ⟨rfl, rfl⟩
  refine Ev ?_
  refine hK _ _ _ ?_; clear hE hK K E
  refine AWP.seq ?_
  refine Rkf (jn2 @hl1 @s11) ?_
  refine Bs ?_
  refine Am.AWP.genT (fun st => st.n = 6 ∧ (∀ id, id < b → st.h id = h id) ∧ st.h b = some ⟨0, (encA a').map .p⟩ ∧ st.h (b + 2) = some ⟨0, MdL m1⟩ ∧ st.t 1 = AcsV l ∧ st.t 5 = .one (.ptr b 0 0) ∧ st.t 7 = BoolV true ∧ st.t 8 = .one (.ptr (b + 2) 0 0) ∧ st.t 12 = RpsV rps) ⟨rfl, fun id hid => by have hid' : id < b := hid; simp -implicitDefEqProofs only [go_sem, ↓reduceIte, Nat.reduceEqDiff, Nat.reduceAdd, Nat.reduceLT, Nat.reduceLeDiff, reduceCtorEq, Int.toNat_natCast, delP, decide_false, show ¬ id = b + 4 by omega, show ¬ id = b + 5 by omega, ho id hid'], by (first | (simp -implicitDefEqProofs only [go_sem, ↓reduceIte, Nat.reduceEqDiff, Nat.reduceAdd, Nat.reduceLT, Nat.reduceLeDiff, reduceCtorEq, Int.toNat_natCast, hA, delP, decide_false, show ¬ b = b + 4 by omega]; first | done | rfl) | rfl), by (first | (simp -implicitDefEqProofs only [go_sem, ↓reduceIte, Nat.reduceEqDiff, Nat.reduceAdd, Nat.reduceLT, Nat.reduceLeDiff, reduceCtorEq, Int.toNat_natCast, hB, delP, decide_false, show ¬ b + 2 = b + 4 by omega]; first | done | rfl) | rfl), by exact Erf @e1, by exact Erf @e5, by exact Erf @e7, by exact Erf @e8, by exact Er⟩ ?_
  clear ho hA hB e1 e5 e7 e8
  rintro ⟨t, h3, n⟩ ⟨hn1, ho, hA, hB, e1, e5, e7, e8, e12⟩
  simp only at hn1 ho hA hB e1 e5 e7 e8 e12
  subst hn1
  refine AWP.seq ?_
  refine Rkf @e1 ?_
  refine AWP.block ?_
  refine AWP.loopM 6 (fun c st => ∃ i m, i ≤ l.length ∧ c = l.length - i ∧ OKM U (bf.length + 2 + i) m ∧ gAt m 63 = gAt m1 63 ∧ (∀ id, id < b → st.h id = h id) ∧ st.h b = some ⟨0, (encA a').map .p⟩ ∧ st.h (b + 2) = some ⟨0, MdL m⟩ ∧ st.t 5 = .one (.ptr b 0 0) ∧ st.t 7 = BoolV true ∧ st.t 8 = .one (.ptr (b + 2) 0 0) ∧ st.t 12 = RpsV rps ∧ st.t 88 = AcsV l ∧ st.t 89 = IntV l.length ∧ st.t 90 = IntV (i : Nat)) l.length rfl ⟨0, m1, Nat.zero_le _, rfl, by simpa using o1, rfl, ho, hA, hB, by exact Erf @e5, by exact Erf @e7, by exact Erf @e8, by exact Erf @e12, by exact Er, by exact Erf @hlm, by exact Er⟩ ?_
  clear ho hA hB e1 e5 e7 e8 e12
  rintro c ⟨t, hh, n⟩ ⟨i, m, hi, rfl, o, hg63, ho, hA, hB, e5, e7, e8, e12, e88, e89, e90⟩ hn1
  simp only at ho hA hB e5 e7 e8 e12 e88 e89 e90 hn1
  subst hn1
  refine Rkf (jn2 @e89 @e90) ?_
  refine AWP.seq ?_
  by_cases hlt : (i : Int) < l.length
  · have hw1 : IntKind.i64.wrap ((i : Int) + 1) = ((i + 1 : Nat) : Int) := by rw [wrap_i64 (by omega) (by omega)]; rfl
    have hi2 : i < l.length := by omega
    have hge := encA_getD l i hi2
    obtain ⟨x, hxe⟩ : ∃ x, l[i] = x := ⟨_, rfl⟩
    have hxm : x ∈ l := by rw [← hxe]; exact List.getElem_mem hi2
    rw [hxe] at hge
    refine Btf @hlt ?_
    refine AWP.skip ?_
    refine Ev ?_
    refine AWP.seq ?_
    refine AWP.block ?_
    refine Rgf (jn5 @e88 @e90 @hlm @hlt @hge) (fun E K hE hK => ?_)
    refine ⟨by omega, ?_⟩
    refine hK _ _ _ ?_; clear hE hK K E
    refine AWP.seq ?_
    by_cases c63 : x.who = 63
    · have c63' : (x.who = 63) = True := eq_true c63
      refine AWP.seqReg (by kernel_rfl) (fun E K hE hK => ?_); simp -implicitDefEqProofs only [go_sem, ↓reduceIte, Nat.reduceEqDiff, Nat.reduceAdd, Nat.reduceLT, Nat.reduceLeDiff, reduceCtorEq, Int.toNat_natCast, encA, c63', decide_true]; refine hK _ _ _ ?_; clear hE hK K E
      refine Bt ?_
      refine AWP.exit ?_
      refine Ev ?_
      refine Raf (jn2 @e90 @hw1) (fun E K hE hK => ?_); refine hK _ _ _ ?_; clear hE hK K E
      exact ⟨(by decide : 6 ≤ 7), l.length - (i + 1), by omega, i + 1, m, by omega, rfl, o.more (by omega), hg63, cutH_outer (Nat.le_add_right _ _) (Ouf @ho) hlow, cutH_same (Nat.lt_add_of_pos_right (by decide)) (by exact Erf @hA) (by simp [lowCs, lowC]), cutH_same (Nat.add_lt_add_left (by decide) _) (by exact Erf @hB) (by simp [lowCs, lowC]), by refine Evf @e5 ?_; exact cutV_ptr (Nat.lt_add_of_pos_right (by decide)), by exact Ecf @e7, by refine Evf @e8 ?_; exact cutV_ptr (Nat.add_lt_add_left (by decide) _), by exact Ecf @e12, by exact Ecf @e88, by exact Ecf @e89, by exact Er⟩
    have c63' : (x.who = 63) = False := eq_false c63
    refine AWP.seqReg (by kernel_rfl) (fun E K hE hK => ?_); simp -implicitDefEqProofs only [go_sem, ↓reduceIte, Nat.reduceEqDiff, Nat.reduceAdd, Nat.reduceLT, Nat.reduceLeDiff, reduceCtorEq, Int.toNat_natCast, encA, c63', decide_false]; refine hK _ _ _ ?_; clear hE hK K E
    refine Bs ?_
    by_cases hokx : okA x
    · have hd := mDoE_ok m x o hU (by omega) hokx (hu x hxm).2.2
      have o2 := doM_ok o hokx (hu x hxm) hU (by omega)
      have hg2 : gAt (doM m x).1 63 = gAt m1 63 := by rw [gAt_ne (by obtain ⟨w1, w2, _⟩ := hokx; omega)]; exact hg63
      generalize doM m x = mr at hd o2 hg2
      obtain ⟨m2, r2⟩ := mr
      simp only at hd o2 hg2
      refine AWP.seqReg (by kernel_rfl) (fun E K hE hK => ?_); simp -implicitDefEqProofs only [go_sem, ↓reduceIte, Nat.reduceEqDiff, Nat.reduceAdd, Nat.reduceLT, Nat.reduceLeDiff, reduceCtorEq, Int.toNat_natCast, e8, hB, encA]
      refine Us (hd _ _) body_15 ?_
      refine hK _ _ _ ?_; clear hE hK K E
      refine Rk ?_
      refine Bt ?_
      refine Raf (jn2 @e8 @hB) (fun E K hE hK => ?_); refine hK _ _ _ ?_; clear hE hK K E
      refine Ev ?_
      refine Raf (jn2 @e90 @hw1) (fun E K hE hK => ?_); refine hK _ _ _ ?_; clear hE hK K E
      exact ⟨(by decide : 6 ≤ 9), l.length - (i + 1), by omega, i + 1, m2, by omega, rfl, o2, hg2, cutH_outer (Nat.le_add_right _ _) (fun id (hid : id < b) => by simp -implicitDefEqProofs only [go_sem, ↓reduceIte, Nat.reduceEqDiff, Nat.reduceAdd, Nat.reduceLT, Nat.reduceLeDiff, reduceCtorEq, Int.toNat_natCast, show ¬ id = b by omega, show ¬ id = b + 1 by omega, show ¬ id = b + 2 by omega, show ¬ id = b + 3 by omega, show ¬ id = b + 4 by omega, show ¬ id = b + 5 by omega, show ¬ id = b + 6 by omega, show ¬ id = b + 7 by omega, show ¬ id = b + 8 by omega, ho id hid]) hlow, cutH_same (Nat.lt_add_of_pos_right (by decide)) (by exact Erf @hA) (by simp [lowCs, lowC]), cutH_same (Nat.add_lt_add_left (by decide) _) (by exact Er) (by simp [lowCs, lowC]), by refine Evf @e5 ?_; exact cutV_ptr (Nat.lt_add_of_pos_right (by decide)), by exact Ecf @e7, by refine Evf @e8 ?_; exact cutV_ptr (Nat.add_lt_add_left (by decide) _), by exact Ecf @e12, by exact Ecf @e88, by exact Ecf @e89, by exact Er⟩
    · have hd := mDoBadE_ok m x o hU (by omega) hokx
      refine AWP.seqReg (by kernel_rfl) (fun E K hE hK => ?_); simp -implicitDefEqProofs only [go_sem, ↓reduceIte, Nat.reduceEqDiff, Nat.reduceAdd, Nat.reduceLT, Nat.reduceLeDiff, reduceCtorEq, Int.toNat_natCast, e8, hB, encA]
      refine Us (hd _ _) body_15 ?_
      refine hK _ _ _ ?_; clear hE hK K E
      refine Rk ?_
      refine Bf ?_
      refine AWP.skip ?_
      refine Ev ?_
      refine Raf (jn2 @e90 @hw1) (fun E K hE hK => ?_); refine hK _ _ _ ?_; clear hE hK K E
      exact ⟨(by decide : 6 ≤ 9), l.length - (i + 1), by omega, i + 1, m, by omega, rfl, o.more (by omega), hg63, cutH_outer (Nat.le_add_right _ _) (fun id (hid : id < b) => by simp -implicitDefEqProofs only [go_sem, ↓reduceIte, Nat.reduceEqDiff, Nat.reduceAdd, Nat.reduceLT, Nat.reduceLeDiff, reduceCtorEq, Int.toNat_natCast, show ¬ id = b by omega, show ¬ id = b + 1 by omega, show ¬ id = b + 2 by omega, show ¬ id = b + 3 by omega, show ¬ id = b + 4 by omega, show ¬ id = b + 5 by omega, show ¬ id = b + 6 by omega, show ¬ id = b + 7 by omega, show ¬ id = b + 8 by omega, ho id hid]) hlow, cutH_same (Nat.lt_add_of_pos_right (by decide)) (by exact Erf @hA) (by simp [lowCs, lowC]), cutH_same (Nat.add_lt_add_left (by decide) _) (by exact Erf @hB) (by simp [lowCs, lowC]), by refine Evf @e5 ?_; exact cutV_ptr (Nat.lt_add_of_pos_right (by decide)), by exact Ecf @e7, by refine Evf @e8 ?_; exact cutV_ptr (Nat.add_lt_add_left (by decide) _), by exact Ecf @e12, by exact Ecf @e88, by exact Ecf @e89, by exact Er⟩
  · refine Bff @hlt ?_
    refine AWP.exit ?_
    refine Ev ?_
    have hra2 := lrunE_ok m [a'] o hua1 hU (by simp only [List.length_cons, List.length_nil]; omega)
    rw [run1 m a' hok, hrep m hg63, ← hrps] at hra2
    simp only at hra2
    generalize (doM m a').1 = mb at hra2
    have t00 : Int.toNat 0 = 0 := rfl
    refine AWP.seqReg (by kernel_rfl) (fun E K hE hK => ?_); simp -implicitDefEqProofs only [go_sem, ↓reduceIte, Nat.reduceEqDiff, Nat.reduceAdd, Nat.reduceLT, Nat.reduceLeDiff, reduceCtorEq, Int.toNat_natCast, e5, e8, hA, hB, encA]
    refine CallR.use (seal1 hra2 _ _ (b + 6) (upd_same _ _ _)) body_13 ?_
    rintro _ _ ⟨rfl, rfl⟩
    refine Ev ?_
    refine hK _ _ _ ?_; clear hE hK K E
    refine AWP.seqRegDG [] [] [] mixed (drawF_ok (by kernel_rfl)) (by kernel_rfl) (fun K hK => ?_); simp -implicitDefEqProofs only [go_sem, ↓reduceIte, Nat.reduceEqDiff, Nat.reduceAdd, Nat.reduceLT, Nat.reduceLeDiff, reduceCtorEq, Int.toNat_natCast, e7, e12, hl1, s11, decide_true, g0, t00, encR]
    repeat (first | (refine evD_guardT 117 rfl ?_; simp -implicitDefEqProofs only [go_sem, ↓reduceIte, Nat.reduceEqDiff, Nat.reduceAdd, Nat.reduceLT, Nat.reduceLeDiff, reduceCtorEq, Int.toNat_natCast, e7, e12, hl1, s11, decide_true, g0, t00, encR]) | (refine evD_guardT 120 rfl ?_; simp -implicitDefEqProofs only [go_sem, ↓reduceIte, Nat.reduceEqDiff, Nat.reduceAdd, Nat.reduceLT, Nat.reduceLeDiff, reduceCtorEq, Int.toNat_natCast, e7, e12, hl1, s11, decide_true, g0, t00, encR]) | (refine evD_guardT 125 rfl ?_; simp -implicitDefEqProofs only [go_sem, ↓reduceIte, Nat.reduceEqDiff, Nat.reduceAdd, Nat.reduceLT, Nat.reduceLeDiff, reduceCtorEq, Int.toNat_natCast, e7, e12, hl1, s11, decide_true, g0, t00, encR]) | (refine ⟨by decide, ?_⟩))
    refine Ud (mreply_ok rp hnl _ _) body_18 ?_
    try (refine Ev ?_)
    repeat (first | (refine Gd 125 ?_) | (refine ⟨by decide, ?_⟩))
    refine hK _ _ _ ?_; clear hK K
    refine AWP.ret ?_
    refine fin _ _ _ (by exact Er) (fun id hid => ?_)
    have hid' : id < b := hid
    simp -implicitDefEqProofs only [go_sem, ↓reduceIte, Nat.reduceEqDiff, Nat.reduceAdd, Nat.reduceLT, Nat.reduceLeDiff, reduceCtorEq, Int.toNat_natCast, delP, decide_false, show ¬ id = b + 6 by omega, show ¬ id = b + 7 by omega, ho id hid']
end Go.Proofs.YtihgnpboabpchaaGreatDoor
