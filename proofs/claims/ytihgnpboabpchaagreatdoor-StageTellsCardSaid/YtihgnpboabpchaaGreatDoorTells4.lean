/-
 Part 4 of the proof of stageTells_card: steps of the machine, walks and plain laws; each holds under the conditions that it states.
-/
import Derived.Test.YtihgnpboabpchaaGreatDoorTells2
import Derived.Test.YtihgnpboabpchaaGreatDoorTells3
import Derived.IntWalk
import Derived.WalkKit
import Derived.RowKit
import Derived.Shelf.Abstract
import Derived.Sort.AssemblyPlain
namespace Go.Proofs.YtihgnpboabpchaaGreatDoor
set_option linter.unusedSimpArgs false
set_option linter.unusedVariables false
set_option linter.unnecessarySimpa false
open Go Am
set_option maxRecDepth 100000
theorem clone_oc_ok (es : List (List PD)) (ho : okEs 1 es) (h : Heap) (b : Nat) (hl : es.length ≤ 1000000000) :
  ACalls Tryz.prog 83 [.one (.p (.sl 1 es))] h b 1 (rowR 1 es h b) := by
 refine ACalls.enter Tryz.func83 rfl (by simp [Tryz.ntmps83]) (fun ι w hn H => ?_)
 refine Rk ?_
 refine AWP.seq ?_
 refine Rg (fun E K hE hK => ?_)
 refine EqlR.nil_sl rfl (.inl rfl) (fun g hg => ?_)
 refine Ev ?_
 refine hK _ _ _ ?_; clear hE hK K E
 cases g
 ·refine AWP.ifF (by exact Ec) ?_
  refine AWP.skip ?_
  refine Ev ?_
  refine Rg (fun E K hE hK => ?_)
  refine BiR.of ?_
  refine BiK.append_own (e := 5) (sz := 1) (bytes := 1) (m := es.length) (xs := es.flatten.map .p) ty_slE_38 ty_tsz_5 ty_tzero_5 rfl ty_tby_5 ty_isIntT_38 (upd_same _ _ _) rfl rfl (by simp [srcA]) (okEs_flat ho _) (by omega) (by decide) (by omega) (fun cap k h1 h2 => ?_)
  refine Ev ?_
  refine hK _ _ _ ?_; clear hE hK K E
  refine AWP.ret ?_
  refine Ev ?_
  refine Ends.row (id := b) (blk := ⟨1, es.flatten.map .p ++ List.replicate k .junk⟩) hn H (lowEq_upd (Nat.le_refl _) (fun _ _ => rfl)) (Nat.le_refl _) (upd_same _ _ _) (lowCs_app (lowCs_p _ _) (lowCs_junk _ _))
   (by rw [show Tryz.f83.results.toList = [.tmp 2] from rfl]; exact Ec) (renV.win0 _ _ _ _) ⟨1, cap, List.replicate k .junk, by omega, by rw [List.length_replicate]; omega, lowCs_junk _ _, rfl, rfl⟩
 ·have he := hg rfl
  subst he
  refine AWP.ifT (by exact Ec) ?_
  refine Rk ?_
  refine AWP.virt 2 (by exact Ec) ?_
  refine AWP.ret ?_
  refine Ev ?_
  refine Ends.row (id := b) (blk := ⟨0, []⟩) hn H (lowEq_upd (Nat.le_refl _) (fun _ _ => rfl)) (Nat.le_refl _) (upd_same _ _ _) rfl
   (by rw [show Tryz.f83.results.toList = [.tmp 2] from rfl]; exact Ec) (renV.win0 _ _ _ _) ⟨0, 0, [], Nat.le_refl _, rfl, rfl, rfl, rfl⟩
def bsedI (xs : List Ed) (tv : ByteArray) (g : FuncId) (h : Heap) (i j : Nat) (st : St) : Prop :=
 st.h = h ∧ st.t 0 = .one (.p (.sl 5 (xs.map encEd))) ∧ st.t 1 = .one (.p (.v (.string tv))) ∧ st.t 2 = .one (.clo (.func g) [] []) ∧ st.t 8 = IntV xs.length ∧ st.t 9 = IntV (i : Nat) ∧ st.t 10 = IntV (j : Nat)
theorem bsed_ok (xs : List Ed) (tv : ByteArray) (g : FuncId) (z : Ed → Int) (k : Nat) (hl : xs.length ≤ 1000000) (hg : bodyB Tryz.prog g = true) (hc : ∀ x ∈ xs, ∀ (h : Heap) (b : Nat), ACalls Tryz.prog g [.agg ((encEd x).map .p), .one (.p (.v (.string tv)))] h b 0 (fun r h' => r = IntV (z x) ∧ h' = h))
  (hk : k ≤ xs.length) (h1 : ∀ (j : Nat) (hj : j < xs.length), j < k → z xs[j] < 0) (h2 : ∀ (j : Nat) (hj : j < xs.length), k ≤ j → ¬ z xs[j] < 0) (f : Bool) (hf : f = true ↔ ∃ hk : k < xs.length, z xs[k] = 0) (h : Heap) (b : Nat) :
  ACalls Tryz.prog 111 [.one (.p (.sl 5 (xs.map encEd))), .one (.p (.v (.string tv))), .one (.clo (.func g) [] [])] h b 0 (fun r h' => r = .tup [IntV k, BoolV f] ∧ h' = h) := by
 refine ACalls.enter Tryz.func111 rfl (by simp [Tryz.ntmps111]) (fun ι w hn H => ?_)
 have hlm : (xs.map encEd).length = xs.length := List.length_map _
 refine Rk ?_
 refine Rkf @hlm ?_
 refine Rkf @hlm ?_
 refine AWP.seq ?_
 refine AWP.block ?_
 refine AWP.loopK 0 (fun m st => ∃ i j, i ≤ k ∧ k ≤ j ∧ j ≤ xs.length ∧ m = j - i ∧ bsedI xs tv g h i j st) xs.length rfl ⟨0, xs.length, Nat.zero_le _, hk, Nat.le_refl _, rfl, rfl, by exact Er, by exact Er, by exact Er, by exact Er, by exact Er, by exact Er⟩ ?_
 rintro m ⟨t, hh, n⟩ ⟨i, j, hik, hkj, hj, rfl, rfl, e0, e1, e2, e8, e9, e10⟩ hn1
 simp only at e0 e1 e2 e8 e9 e10 hn1
 subst hn1
 refine AWP.seq ?_
 refine Rkf (jn2 @e9 @e10) ?_
 by_cases hlt : (i : Int) < j
 ·refine Btf @hlt ?_
  refine AWP.skip ?_
  refine Ev ?_
  refine AWP.block ?_
  obtain ⟨c, hcd⟩ : ∃ c, (i + j) / 2 = c := ⟨_, rfl⟩
  have hci : i ≤ c ∧ c < j := by omega
  have hsum : IntKind.i64.wrap ((i : Int) + j) = ((i + j : Nat) : Int) := by rw [wrap_i64 (by omega) (by omega)]; omega
  have hu : IntKind.u64.wrap ((i + j : Nat) : Int) = ((i + j : Nat) : Int) := IntWalk.u64_in _ ⟨by omega, by omega⟩
  have h10 : ¬ (1 : Int) < 0 := by decide
  have hfd : Int.fdiv ((i + j : Nat) : Int) (2 ^ min (Int.toNat 1) 64) = (c : Int) := by
   rw [← hcd, show ((2 : Int) ^ min (Int.toNat 1) 64) = 2 from rfl, Int.fdiv_eq_ediv_of_nonneg _ (by decide)]; omega
  have hback : IntKind.i64.wrap (c : Int) = (c : Int) := wrap_i64 (by omega) (by omega)
  have hcl : c < xs.length := by omega
  have hge : (xs.map encEd).getD c [] = encEd xs[c] := by simp [List.getD, hcl]
  have hz1 := h1 c hcl
  have hz2 := h2 c hcl
  obtain ⟨x, hx⟩ : ∃ x, xs[c] = x := ⟨_, rfl⟩
  rw [hx] at hge hz1 hz2
  have hxm : x ∈ xs := by rw [← hx]; exact List.getElem_mem hcl
  have hlt3 : (c : Int) < xs.length := by omega
  have hw1 : IntKind.i64.wrap ((c : Int) + 1) = ((c + 1 : Nat) : Int) := by rw [wrap_i64 (by omega) (by omega)]; rfl
  refine Rkf (jn7 @e9 @e10 @hsum @hu @h10 @hfd @hback) ?_
  refine Rgf (jn6 @e0 @e1 @e2 @hlm @hlt3 @hge) (fun E K hE hK => ?_)
  refine ⟨by omega, ?_⟩
  refine Us (hc x hxm _ _) hg ?_
  refine hK _ _ _ ?_; clear hE hK K E
  by_cases hneg : z x < 0
  ·have hk2 : c < k := by
    rcases Nat.lt_or_ge c k with q | q
    ·exact q
    ·exact absurd hneg (hz2 q)
   refine Btf @hneg ?_
   refine Raf @hw1 (fun E K hE hK => ?_); refine hK _ _ _ ?_; clear hE hK K E
   exact ⟨rfl, j - (c + 1), by omega, c + 1, j, by omega, by omega, by omega, rfl, rfl, by exact Ecf @e0, by exact Ecf @e1, by exact Ecf @e2, by exact Ecf @e8, by exact Er, by exact Ecf @e10⟩
  ·have hk2 : k ≤ c := by
    rcases Nat.lt_or_ge c k with q | q
    ·exact absurd (hz1 q) hneg
    ·exact q
   refine Bff @hneg ?_
   refine Ra (fun E K hE hK => ?_); refine hK _ _ _ ?_; clear hE hK K E
   exact ⟨rfl, c - i, by omega, i, c, by omega, by omega, by omega, rfl, rfl, by exact Ecf @e0, by exact Ecf @e1, by exact Ecf @e2, by exact Ecf @e8, by exact Ecf @e9, by exact Er⟩
 ·refine Bff @hlt ?_
  refine AWP.exit ?_
  refine Ev ?_
  have hij : i = k := by omega
  subst hij
  have hfin : ∀ (t : Nat → AV) (n : Nat), t 6 = IntV i → t 7 = BoolV f → Am.Ends Tryz.prog ⟨Tryz.f111.ntmps, b, ι, hh, w, x0⟩ Tryz.f111 0 (fun r h' => r = .tup [IntV i, BoolV f] ∧ h' = hh) ⟨t, hh, n⟩ := by
   intro t n g6 g7
   exact Ends.pure hn H (fun _ _ => rfl) (r0 := .tup [IntV i, BoolV f]) (by rw [show Tryz.f111.results.toList = [.tmp 6, .tmp 7] from rfl]; exact Ecf (jn2 @g6 @g7)) (frz_tup2 (.v _) (.v _)) ⟨rfl, rfl⟩
  by_cases hkn : ((i : Nat) : Int) < xs.length
  ·have hk2 : i < xs.length := by omega
   have hge : (xs.map encEd).getD i [] = encEd xs[i] := by simp [List.getD, hk2]
   obtain ⟨x, hx⟩ : ∃ x, xs[i] = x := ⟨_, rfl⟩
   have hd : f = decide (z x = 0) := by
    rw [Bool.eq_iff_iff, hf, decide_eq_true_eq]
    exact ⟨fun ⟨_, e⟩ => by rw [← hx]; exact e, fun e => ⟨hk2, by rw [hx]; exact e⟩⟩
   rw [hx] at hge
   have hxm : x ∈ xs := by rw [← hx]; exact List.getElem_mem hk2
   refine Rgf (jn2 @e0 (jn7 @e1 @e2 @e8 @e9 @hlm @hkn @hge)) (fun E K hE hK => ?_)
   refine ⟨by omega, ?_⟩
   refine Us (hc x hxm _ _) hg ?_
   refine hK _ _ _ ?_; clear hE hK K E
   refine AWP.ret ?_
   exact hfin _ _ (by exact Er) (by rw [hd]; exact Er)
  ·have hd : f = false := by
    rw [← Bool.not_eq_true, hf]
    rintro ⟨q, _⟩; omega
   refine Rkf (jn7 @e0 @e1 @e2 @e8 @e9 @hlm @hkn) ?_
   refine AWP.ret ?_
   exact hfin _ _ (by exact Er) (by rw [hd]; exact Er)
def bsstI (xs : List S) (tv : ByteArray) (g : FuncId) (h : Heap) (i j : Nat) (st : St) : Prop :=
 st.h = h ∧ st.t 0 = .one (.p (.sl 1 (xs.map encS))) ∧ st.t 1 = .one (.p (.v (.string tv))) ∧ st.t 2 = .one (.clo (.func g) [] []) ∧ st.t 8 = IntV xs.length ∧ st.t 9 = IntV (i : Nat) ∧ st.t 10 = IntV (j : Nat)
theorem bsst_ok (xs : List S) (tv : ByteArray) (g : FuncId) (z : S → Int) (k : Nat) (hl : xs.length ≤ 1000000) (hg : bodyB Tryz.prog g = true) (hc : ∀ x ∈ xs, ∀ (h : Heap) (b : Nat), ACalls Tryz.prog g [.one (.p (.v (.string (mkS x)))), .one (.p (.v (.string tv)))] h b 0 (fun r h' => r = IntV (z x) ∧ h' = h))
  (hk : k ≤ xs.length) (h1 : ∀ (j : Nat) (hj : j < xs.length), j < k → z xs[j] < 0) (h2 : ∀ (j : Nat) (hj : j < xs.length), k ≤ j → ¬ z xs[j] < 0) (f : Bool) (hf : f = true ↔ ∃ hk : k < xs.length, z xs[k] = 0) (h : Heap) (b : Nat) :
  ACalls Tryz.prog 115 [.one (.p (.sl 1 (xs.map encS))), .one (.p (.v (.string tv))), .one (.clo (.func g) [] [])] h b 0 (fun r h' => r = .tup [IntV k, BoolV f] ∧ h' = h) := by
 refine ACalls.enter Tryz.func115 rfl (by simp [Tryz.ntmps115]) (fun ι w hn H => ?_)
 have hlm : (xs.map encS).length = xs.length := List.length_map _
 refine Rk ?_
 refine Rkf @hlm ?_
 refine Rkf @hlm ?_
 refine AWP.seq ?_
 refine AWP.block ?_
 refine AWP.loopK 0 (fun m st => ∃ i j, i ≤ k ∧ k ≤ j ∧ j ≤ xs.length ∧ m = j - i ∧ bsstI xs tv g h i j st) xs.length rfl ⟨0, xs.length, Nat.zero_le _, hk, Nat.le_refl _, rfl, rfl, by exact Er, by exact Er, by exact Er, by exact Er, by exact Er, by exact Er⟩ ?_
 rintro m ⟨t, hh, n⟩ ⟨i, j, hik, hkj, hj, rfl, rfl, e0, e1, e2, e8, e9, e10⟩ hn1
 simp only at e0 e1 e2 e8 e9 e10 hn1
 subst hn1
 refine AWP.seq ?_
 refine Rkf (jn2 @e9 @e10) ?_
 by_cases hlt : (i : Int) < j
 ·refine Btf @hlt ?_
  refine AWP.skip ?_
  refine Ev ?_
  refine AWP.block ?_
  obtain ⟨c, hcd⟩ : ∃ c, (i + j) / 2 = c := ⟨_, rfl⟩
  have hci : i ≤ c ∧ c < j := by omega
  have hsum : IntKind.i64.wrap ((i : Int) + j) = ((i + j : Nat) : Int) := by rw [wrap_i64 (by omega) (by omega)]; omega
  have hu : IntKind.u64.wrap ((i + j : Nat) : Int) = ((i + j : Nat) : Int) := IntWalk.u64_in _ ⟨by omega, by omega⟩
  have h10 : ¬ (1 : Int) < 0 := by decide
  have hfd : Int.fdiv ((i + j : Nat) : Int) (2 ^ min (Int.toNat 1) 64) = (c : Int) := by
   rw [← hcd, show ((2 : Int) ^ min (Int.toNat 1) 64) = 2 from rfl, Int.fdiv_eq_ediv_of_nonneg _ (by decide)]; omega
  have hback : IntKind.i64.wrap (c : Int) = (c : Int) := wrap_i64 (by omega) (by omega)
  have hcl : c < xs.length := by omega
  have hge : (xs.map encS).getD c [] = encS xs[c] := by simp [List.getD, hcl]
  have hz1 := h1 c hcl
  have hz2 := h2 c hcl
  obtain ⟨x, hx⟩ : ∃ x, xs[c] = x := ⟨_, rfl⟩
  rw [hx] at hge hz1 hz2
  have hxm : x ∈ xs := by rw [← hx]; exact List.getElem_mem hcl
  have hlt3 : (c : Int) < xs.length := by omega
  have hw1 : IntKind.i64.wrap ((c : Int) + 1) = ((c + 1 : Nat) : Int) := by rw [wrap_i64 (by omega) (by omega)]; rfl
  refine Rkf (jn7 @e9 @e10 @hsum @hu @h10 @hfd @hback) ?_
  refine Rgf (jn6 @e0 @e1 @e2 @hlm @hlt3 @hge) (fun E K hE hK => ?_)
  refine ⟨by omega, ?_⟩
  refine Us (hc x hxm _ _) hg ?_
  refine hK _ _ _ ?_; clear hE hK K E
  by_cases hneg : z x < 0
  ·have hk2 : c < k := by
    rcases Nat.lt_or_ge c k with q | q
    ·exact q
    ·exact absurd hneg (hz2 q)
   refine Btf @hneg ?_
   refine Raf @hw1 (fun E K hE hK => ?_); refine hK _ _ _ ?_; clear hE hK K E
   exact ⟨rfl, j - (c + 1), by omega, c + 1, j, by omega, by omega, by omega, rfl, rfl, by exact Ecf @e0, by exact Ecf @e1, by exact Ecf @e2, by exact Ecf @e8, by exact Er, by exact Ecf @e10⟩
  ·have hk2 : k ≤ c := by
    rcases Nat.lt_or_ge c k with q | q
    ·exact absurd (hz1 q) hneg
    ·exact q
   refine Bff @hneg ?_
   refine Ra (fun E K hE hK => ?_); refine hK _ _ _ ?_; clear hE hK K E
   exact ⟨rfl, c - i, by omega, i, c, by omega, by omega, by omega, rfl, rfl, by exact Ecf @e0, by exact Ecf @e1, by exact Ecf @e2, by exact Ecf @e8, by exact Ecf @e9, by exact Er⟩
 ·refine Bff @hlt ?_
  refine AWP.exit ?_
  refine Ev ?_
  have hij : i = k := by omega
  subst hij
  have hfin : ∀ (t : Nat → AV) (n : Nat), t 6 = IntV i → t 7 = BoolV f → Am.Ends Tryz.prog ⟨Tryz.f115.ntmps, b, ι, hh, w, x0⟩ Tryz.f115 0 (fun r h' => r = .tup [IntV i, BoolV f] ∧ h' = hh) ⟨t, hh, n⟩ := by
   intro t n g6 g7
   exact Ends.pure hn H (fun _ _ => rfl) (r0 := .tup [IntV i, BoolV f]) (by rw [show Tryz.f115.results.toList = [.tmp 6, .tmp 7] from rfl]; exact Ecf (jn2 @g6 @g7)) (frz_tup2 (.v _) (.v _)) ⟨rfl, rfl⟩
  by_cases hkn : ((i : Nat) : Int) < xs.length
  ·have hk2 : i < xs.length := by omega
   have hge : (xs.map encS).getD i [] = encS xs[i] := by simp [List.getD, hk2]
   obtain ⟨x, hx⟩ : ∃ x, xs[i] = x := ⟨_, rfl⟩
   have hd : f = decide (z x = 0) := by
    rw [Bool.eq_iff_iff, hf, decide_eq_true_eq]
    exact ⟨fun ⟨_, e⟩ => by rw [← hx]; exact e, fun e => ⟨hk2, by rw [hx]; exact e⟩⟩
   rw [hx] at hge
   have hxm : x ∈ xs := by rw [← hx]; exact List.getElem_mem hk2
   refine Rgf (jn2 @e0 (jn7 @e1 @e2 @e8 @e9 @hlm @hkn @hge)) (fun E K hE hK => ?_)
   refine ⟨by omega, ?_⟩
   refine Us (hc x hxm _ _) hg ?_
   refine hK _ _ _ ?_; clear hE hK K E
   refine AWP.ret ?_
   exact hfin _ _ (by exact Er) (by rw [hd]; exact Er)
  ·have hd : f = false := by
    rw [← Bool.not_eq_true, hf]
    rintro ⟨q, _⟩; omega
   refine Rkf (jn7 @e0 @e1 @e2 @e8 @e9 @hlm @hkn) ?_
   refine AWP.ret ?_
   exact hfin _ _ (by exact Er) (by rw [hd]; exact Er)
theorem clone_str_ok (es : List (List PD)) (ho : okEs 1 es) (h : Heap) (b : Nat) (hl : es.length ≤ 1000000000) :
  ACalls Tryz.prog 95 [.one (.p (.sl 1 es))] h b 1 (rowR 1 es h b) := by
 refine ACalls.enter Tryz.func95 rfl (by simp [Tryz.ntmps95]) (fun ι w hn H => ?_)
 refine Rk ?_
 refine AWP.seq ?_
 refine Rg (fun E K hE hK => ?_)
 refine EqlR.nil_sl rfl (.inl rfl) (fun g hg => ?_)
 refine Ev ?_
 refine hK _ _ _ ?_; clear hE hK K E
 cases g
 ·refine AWP.ifF (by exact Ec) ?_
  refine AWP.skip ?_
  refine Ev ?_
  refine Rg (fun E K hE hK => ?_)
  refine BiR.of ?_
  refine BiK.append_own (e := 9) (sz := 1) (bytes := 16) (m := es.length) (xs := es.flatten.map .p) ty_slE_42 ty_tsz_9 ty_tzero_9 rfl ty_tby_9 ty_isIntT_42 (upd_same _ _ _) rfl rfl (by simp [srcA]) (okEs_flat ho _) (by omega) (by decide) (by omega) (fun cap k h1 h2 => ?_)
  refine Ev ?_
  refine hK _ _ _ ?_; clear hE hK K E
  refine AWP.ret ?_
  refine Ev ?_
  refine Ends.row (id := b) (blk := ⟨1, es.flatten.map .p ++ List.replicate k .junk⟩) hn H (lowEq_upd (Nat.le_refl _) (fun _ _ => rfl)) (Nat.le_refl _) (upd_same _ _ _) (lowCs_app (lowCs_p _ _) (lowCs_junk _ _))
   (by rw [show Tryz.f95.results.toList = [.tmp 2] from rfl]; exact Ec) (renV.win0 _ _ _ _) ⟨1, cap, List.replicate k .junk, by omega, by rw [List.length_replicate]; omega, lowCs_junk _ _, rfl, rfl⟩
 ·have he := hg rfl
  subst he
  refine AWP.ifT (by exact Ec) ?_
  refine Rk ?_
  refine AWP.virt 2 (by exact Ec) ?_
  refine AWP.ret ?_
  refine Ev ?_
  refine Ends.row (id := b) (blk := ⟨0, []⟩) hn H (lowEq_upd (Nat.le_refl _) (fun _ _ => rfl)) (Nat.le_refl _) (upd_same _ _ _) rfl
   (by rw [show Tryz.f95.results.toList = [.tmp 2] from rfl]; exact Ec) (renV.win0 _ _ _ _) ⟨0, 0, [], Nat.le_refl _, rfl, rfl, rfl, rfl⟩
theorem over_str : isOver Tryz.prog 157 42 4 := fun args w =>
 run_callFunc_extern (fn := Tryz.f157) Tryz.func157 (by kernel_rfl) (by kernel_rfl) (by kernel_rfl) (e := Extern.SlicesOverlaps.overlaps #[42, 42] #[4]) (by kernel_rfl) args w
set_option maxHeartbeats 1600000 in
theorem insert_str_ok (es vs : List (List PD)) (ho : okEs 1 es) (hv : okEs 1 vs) (h : Heap) (b id ver cap i : Nat) (T : List Cell) (hid : id < b) (hb : h id = some (rowB ver es T)) (hT : lowCs 0 T = true) (hcap : es.length ≤ cap)
  (hc : cap * 1 = es.length * 1 + T.length) (hi : i ≤ es.length) (hl : es.length ≤ 1000000000) (hl2 : vs.length ≤ 1000000000) :
  ACalls Tryz.prog 116 [.one (.win id ver 0 es.length cap), IntV i, .one (.p (.sl 1 vs))] h b 0 (rowR 1 (es.take i ++ (vs ++ es.drop i)) h id) := by
 refine ACalls.enter Tryz.func116 rfl (by simp [Tryz.ntmps116]) (fun ι w hn H => ?_)
 have hlow := H.lowCells
 have hfl := okEs_len ho
 have hfv := okEs_len hv
 have htl : (es.take i).length = i := by rw [List.length_take]; omega
 have hdl : (es.drop i).length = es.length - i := by simp
 have hrl : (es.take i ++ (vs ++ es.drop i)).length = es.length + vs.length := by rw [List.length_append, List.length_append, htl, hdl]; omega
 have hsplit : es.flatten.map Cell.p = (es.take i).flatten.map .p ++ (es.drop i).flatten.map .p := by rw [← List.map_append, ← List.flatten_append, List.take_append_drop]
 refine Rk ?_
 refine Rgf @hb (fun E K hE hK => ?_)
 refine ⟨⟨by omega, by omega⟩, ?_⟩
 refine hK _ _ _ ?_; clear hE hK K E
 refine Rk ?_
 refine AWP.seq ?_
 refine Rk ?_
 by_cases hv0 : (vs.length : Int) = 0
 ·refine AWP.ifT (by exact Ecf @hv0) ?_
  refine Rk ?_
  refine AWP.ret ?_
  refine Ev ?_
  have : vs = [] := List.eq_nil_of_length_eq_zero (by omega)
  subst this
  refine Ends.turn hn H hid (fun k _ => by rw [upd_self hb]) (lowCs_app (lowCs_p _ _) (lowCs_mono (Nat.zero_le _) hT)) (r0 := .one (.win id ver 0 es.length cap))
   (by rw [show Tryz.f116.results.toList = [.tmp 6] from rfl]; exact Ec) (.one (.inl ⟨rfl, by simp [lowC, hid]⟩)) ?_
  rw [List.nil_append, List.take_append_drop]
  exact ⟨ver, cap, T, hcap, hc, hT, rfl, rfl⟩
 refine AWP.ifF (by exact Ecf @hv0) ?_
 refine AWP.skip ?_
 refine Ev ?_
 refine Rkf @hb ?_
 refine AWP.seq ?_
 refine Rk ?_
 by_cases hie : (i : Int) = es.length
 ·refine AWP.ifT (by exact Ecf @hie) ?_
  refine Rgf @hb (fun E K hE hK => ?_)
  have hie' : i = es.length := by omega
  subst hie'
  have htk : (rowB ver es T).cells.take (es.length * 1) = es.flatten.map .p := by rw [List.take_left' (by rw [List.length_map, hfl])]
  refine BiR.of ?_
  refine BiK.append_own (e := 9) (sz := 1) (bytes := 16) (m := vs.length) (xs := vs.flatten.map .p) ty_slE_42 ty_tsz_9 ty_tzero_9 rfl ty_tby_9 ty_isIntT_42 hb rfl (by simp only [List.length_append, List.length_map, hfl]; omega) (by simp [srcA]) (okEs_flat hv _) (by omega) (by decide) (by omega) (fun cap' k h1 h2 => ?_)
  rw [htk]
  refine Ev ?_
  refine hK _ _ _ ?_; clear hE hK K E
  refine AWP.ret ?_
  refine Ev ?_
  refine Ends.turn hn H hid (fun k _ => rfl) (lowCs_app (lowCs_p _ _) (lowCs_app (lowCs_p _ _) (lowCs_junk _ _))) (r0 := .one (.win id (ver + 1) 0 (es.length + vs.length) cap'))
   (by rw [show Tryz.f116.results.toList = [.tmp 6] from rfl]; exact Ec) (.one (.inl ⟨rfl, by simp [lowC, hid]⟩)) ?_
  have he : es.take es.length ++ (vs ++ es.drop es.length) = es ++ vs := by simp
  rw [he]
  refine ⟨ver + 1, cap', List.replicate k .junk, by rw [List.length_append]; omega, by rw [List.length_append, List.length_replicate]; omega, lowCs_junk _ _, by rw [List.length_append], ?_⟩
  rw [rowB_app]
 refine AWP.ifF (by exact Ecf @hie) ?_
 refine AWP.skip ?_
 refine Ev ?_
 refine AWP.seq ?_
 refine Rkf @hb ?_
 have hw1 : IntKind.i64.wrap ((es.length : Int) + vs.length) = ((es.length + vs.length : Nat) : Int) := by rw [wrap_i64 (by omega) (by omega)]; omega
 by_cases hgr : cap < es.length + vs.length
 ·refine AWP.ifT (by exact Ecf (jn2 @hw1 (show (cap : Int) < ((es.length + vs.length : Nat) : Int) by omega))) ?_
  have hw2 : IntKind.i64.wrap (((es.length + vs.length : Nat) : Int) - i) = ((es.length + vs.length - i : Nat) : Int) := by rw [wrap_i64 (by omega) (by omega)]; omega
  refine Rgf (jn3 @hb @hw1 @hw2) (fun E K hE hK => ?_)
  refine ⟨⟨by omega, by omega⟩, ?_⟩
  have hsr := srcA_row (cap := cap) (off := 0) (m := i) 0 hb ho (by omega) (.inl (by omega))
  rw [List.drop_zero] at hsr
  have hne : ¬ id = b := by omega
  have hne' : ¬ b = id := by omega
  refine BiR.of ?_
  refine BiK.append_mk (e := 9) (sz := 1) (bytes := 16) (zs := [.string ByteArray.empty]) ty_slE_42 ty_tsz_9 ty_tzero_9 rfl ty_tby_9 ty_intK_3 (by exact Ecf @hb) hsr (by omega) (by omega) (by decide) (by omega) (fun cap' k h1 h2 => ?_)
  have hsum : i + (es.length + vs.length - i) = es.length + vs.length := by omega
  rw [hsum] at h1 h2
  rw [rowB_zeros, hsum]
  have hz0 : okEs 1 (List.replicate (es.length + vs.length - i) (List.map PD.v [.string ByteArray.empty])) := okEs_replicate rfl (by decide) _
  have hoz : okEs 1 (es.take i ++ List.replicate (es.length + vs.length - i) (List.map PD.v [.string ByteArray.empty])) := (ho.take i).append hz0
  have hozl : (es.take i ++ List.replicate (es.length + vs.length - i) (List.map PD.v [.string ByteArray.empty])).length = es.length + vs.length := by rw [List.length_append, htl, List.length_replicate]; omega
  have hoz1 : (es.take i ++ List.replicate (es.length + vs.length - i) (List.map PD.v [.string ByteArray.empty])).take i = es.take i := by rw [List.take_append_of_le_length (by omega), List.take_of_length_le (by omega)]
  have hfz := okEs_len hoz
  rw [hozl] at hfz
  generalize es.take i ++ List.replicate (es.length + vs.length - i) (List.map PD.v [.string ByteArray.empty]) = e1 at hoz hozl hfz hoz1 ⊢
  refine Ev ?_
  refine hK _ _ _ ?_; clear hE hK K E
  refine Rgf (show ¬ cap' = i by omega) (fun E K hE hK => ?_)
  refine ⟨⟨by omega, by omega⟩, ?_⟩
  refine BiR.of ?_
  refine BiK.copy (e := 9) (sz := 1) (m := vs.length) (xs := vs.flatten.map .p) ty_slE_42 ty_tsz_9 (upd_same _ _ _) rfl (by simp [srcA]) (fun c hc => okEs_flat hv _ c (List.mem_of_mem_take hc)) (by simp only [List.length_append, List.length_map, hfz, List.length_replicate]; omega) ?_
  rw [Nat.min_eq_left (by omega), List.take_of_length_le (by rw [List.length_map, hfv]; exact Nat.le_refl _), spl_els _ hoz hv (by omega) 0 rfl, hoz1]
  have hd2 : (es.take i ++ (vs ++ e1.drop (i + vs.length))).length = es.length + vs.length := by rw [List.length_append, List.length_append, List.length_drop, htl, hozl]; omega
  have ho2 : okEs 1 (es.take i ++ (vs ++ e1.drop (i + vs.length))) := (ho.take i).append (hv.append (hoz.drop _))
  have ho2t : (es.take i ++ (vs ++ e1.drop (i + vs.length))).take (i + vs.length) = es.take i ++ vs := by
   rw [← List.append_assoc, List.take_append_of_le_length (by rw [List.length_append, htl]; omega), List.take_of_length_le (by rw [List.length_append, htl]; omega)]
  have hf2 := okEs_len ho2
  rw [hd2] at hf2
  generalize es.take i ++ (vs ++ e1.drop (i + vs.length)) = e2 at hd2 ho2 ho2t hf2 ⊢
  refine Ev ?_
  refine hK _ _ _ ?_; clear hE hK K E
  have hw3 : IntKind.i64.wrap ((i : Int) + vs.length) = ((i + vs.length : Nat) : Int) := by rw [wrap_i64 (by omega) (by omega)]; omega
  refine AWP.seqRegD [] [] [b] mixed (by kernel_rfl) (by kernel_rfl) (fun K hK => .inl ?_) (by kernel_rfl); simp -implicitDefEqProofs only [go_sem, ↓reduceIte, Nat.reduceEqDiff, Nat.reduceAdd, Nat.reduceLT, Nat.reduceLeDiff, reduceCtorEq, Int.toNat_natCast, hb, ers_lit, hw3, hne, hne', show ¬ cap' = i + vs.length by omega]
  refine ⟨⟨by omega, by omega⟩, ⟨by omega, by omega⟩, ?_⟩
  have hsrc := srcA_row (h := upd h b (rowB 0 e2 (List.replicate k .junk))) (cap := cap - i) (off := if cap = i then 0 else i * 1) (m := es.length - i) i (by rw [upd_ne _ _ _ _ hne]; exact hb) ho (by omega) (by
   by_cases hcj : cap = i
   ·rw [if_pos hcj]; exact .inr ⟨by omega, rfl⟩
   ·rw [if_neg hcj]; exact .inl rfl)
  rw [List.take_of_length_le (by simp : (es.drop i).length ≤ es.length - i)] at hsrc
  refine BiD.of ?_
  refine BiK.copy (e := 9) (sz := 1) (m := es.length - i) (xs := (es.drop i).flatten.map .p) ty_slE_42 ty_tsz_9 (upd_same _ _ _) rfl hsrc (fun c hc => okEs_flat (ho.drop i) _ c (List.mem_of_mem_take hc)) (by simp only [List.length_append, List.length_map, hf2, List.length_replicate]; omega) ?_
  rw [show es.length + vs.length - (i + vs.length) = es.length - i by omega, Nat.min_self, List.take_of_length_le (by rw [List.length_map, okEs_len (ho.drop i), hdl]; exact Nat.le_refl _), upd_upd, spl_els _ ho2 (ho.drop i) (by omega) 0 rfl, ho2t,
   show e2.drop (i + vs.length + (es.drop i).length) = [] from List.drop_of_length_le (by omega), List.append_nil, List.append_assoc]
  refine ⟨Sub.reupd (sub_ers _ b) (fun c e => ?_), ?_⟩
  ·rw [ers_lit, if_pos rfl, upd_same] at e; injection e with e; subst e; exact ⟨rfl, rfl⟩
  generalize hE3 : es.take i ++ (vs ++ es.drop i) = e3 at hrl ⊢
  refine Ev ?_
  refine hK _ _ _ ?_; clear hK K
  refine Rk ?_
  refine AWP.ret ?_
  refine Ev ?_
  refine Ends.move hn H hid hb (fun k hk _ => upd_ne _ _ _ _ (Nat.ne_of_lt hk)) (Nat.le_refl _) (upd_same _ _ _) rfl (lowCs_app (lowCs_p _ _) (lowCs_junk _ _)) (off := 0) (len := es.length + vs.length) (cap := cap')
   (by rw [show Tryz.f116.results.toList = [.tmp 6] from rfl]; exact Ec) ?_
  subst hE3
  exact ⟨ver + 1, cap', List.replicate k .junk, by omega, by rw [List.length_replicate]; omega, lowCs_junk _ _, by rw [hrl], rfl⟩
 ·refine AWP.ifF (by exact Ecf (jn2 @hw1 (show ¬ (cap : Int) < ((es.length + vs.length : Nat) : Int) by omega))) ?_
  refine AWP.skip ?_
  refine Ev ?_
  refine Rgf (jn2 @hb @hw1) (fun E K hE hK => ?_)
  refine ⟨⟨by omega, by omega⟩, ?_⟩
  refine hK _ _ _ ?_; clear hE hK K E
  have hw3 : IntKind.i64.wrap ((i : Int) + vs.length) = ((i + vs.length : Nat) : Int) := by rw [wrap_i64 (by omega) (by omega)]; omega
  refine AWP.seq ?_
  refine Rgf (jn2 @hb @hw3) (fun E K hE hK => ?_)
  refine ⟨⟨by omega, by omega⟩, ?_⟩
  refine CallR.ext (over_sw over_str ty_slE_42 ty_tsz_9 rfl (by exact Ecf @hb) (fun blk e hh => ?_) ?_)
  ·rw [hb] at e; injection e with e; subst e
   have h0 := congrArg List.length hh
   simp only [List.length_append, List.length_map, hfl, List.length_nil] at h0
   omega
  refine Ev ?_
  refine hK _ _ _ ?_; clear hE hK K E
  refine AWP.ifT (by exact Ec) ?_
  have hcim : ¬ cap = i + vs.length := by omega
  have hci : ¬ cap = i := by omega
  refine AWP.seqRegD [] [] [id] mixed (by kernel_rfl) (by kernel_rfl) (fun K hK => .inl ?_) (by kernel_rfl); simp -implicitDefEqProofs only [go_sem, ↓reduceIte, Nat.reduceEqDiff, Nat.reduceAdd, Nat.reduceLT, Nat.reduceLeDiff, reduceCtorEq, Int.toNat_natCast, hb, ers_lit, hw3, hcim, hci]
  refine ⟨⟨by omega, by omega⟩, ⟨by omega, by omega⟩, ?_⟩
  obtain ⟨xs, hsrc, hxs⟩ := srcA_room (cap := cap - i) (off := i * 1) (m := es.length + vs.length - i) i hb ho (by omega) rfl (by omega) (by omega)
  have hmin : min (es.length + vs.length - i) (es.length + vs.length - (i + vs.length)) = es.length - i := by omega
  refine BiD.of ?_
  refine BiK.copy (e := 9) (sz := 1) ty_slE_42 ty_tsz_9 hb rfl hsrc (by rw [hmin, hxs]; exact okEs_flat (ho.drop i) _) (by simp only [List.length_append, List.length_map, hfl]; omega) ?_
  rw [hmin, hxs]
  refine ⟨(sub_ers h id).upd (fun c e => ?_), ?_⟩
  ·rw [ers_lit, if_pos rfl, hb] at e; injection e with e; subst e; exact ⟨rfl, rfl⟩
  have hBl : ((es.drop i).flatten.map Cell.p).length = (es.length - i) * 1 := by rw [List.length_map, okEs_len (ho.drop i), hdl]
  have hVl : (vs.flatten.map Cell.p).length = vs.length * 1 := by rw [List.length_map, hfv]
  have hAl : ((es.take i).flatten.map Cell.p).length = i * 1 := by rw [List.length_map, okEs_len (ho.take i), htl]
  have hfin : spl (spl (es.flatten.map .p ++ T) ((i + vs.length) * 1) ((es.drop i).flatten.map .p)) (i * 1) (vs.flatten.map .p) = (es.take i ++ (vs ++ es.drop i)).flatten.map .p ++ T.drop (vs.length * 1) := by
   rw [hsplit, List.append_assoc, spl_ins hAl.symm (by rw [hAl, hVl]; omega) (by rw [hVl]; omega), hVl, List.flatten_append, List.map_append, List.flatten_append, List.map_append, List.append_assoc, List.append_assoc]
  have hc1l : (spl (es.flatten.map .p ++ T) ((i + vs.length) * 1) ((es.drop i).flatten.map .p)).length = es.length * 1 + T.length := by
   rw [spl_length (by rw [hBl, List.length_append, List.length_map, hfl]; omega), List.length_append, List.length_map, hfl]
  generalize spl (es.flatten.map .p ++ T) ((i + vs.length) * 1) ((es.drop i).flatten.map .p) = c1 at hfin hc1l ⊢
  refine Ev ?_
  refine hK _ _ _ ?_; clear hK K
  refine Rgf @hci (fun E K hE hK => ?_)
  refine ⟨⟨by omega, by omega⟩, ?_⟩
  refine BiR.of ?_
  refine BiK.copy (e := 9) (sz := 1) (m := vs.length) (xs := vs.flatten.map .p) ty_slE_42 ty_tsz_9 (upd_same _ _ _) rfl (by simp [srcA]) (fun c hc => okEs_flat hv _ c (List.mem_of_mem_take hc)) (by simp only [hc1l]; omega) ?_
  rw [Nat.min_eq_left (by omega), List.take_of_length_le (by rw [hVl]; exact Nat.le_refl _), upd_upd]
  simp only [hfin]
  generalize hE3 : es.take i ++ (vs ++ es.drop i) = e3 at hrl ⊢
  refine Ev ?_
  refine hK _ _ _ ?_; clear hE hK K E
  refine Rk ?_
  refine AWP.ret ?_
  refine Ev ?_
  refine Ends.turn hn H hid (fun _ _ => rfl) (lowCs_app (lowCs_p _ _) (lowCs_mono (Nat.zero_le _) (lowCs_drop hT _))) (r0 := .one (.win id ver 0 (es.length + vs.length) cap))
   (by rw [show Tryz.f116.results.toList = [.tmp 6] from rfl]; exact Ec) (.one (.inl ⟨rfl, by simp [lowC, hid]⟩)) ?_
  subst hE3
  exact ⟨ver, cap, T.drop (vs.length * 1), by omega, by rw [List.length_drop]; omega, lowCs_drop hT _, by rw [hrl], rfl⟩
theorem clone_ed_ok (es : List (List PD)) (ho : okEs 5 es) (h : Heap) (b : Nat) (hl : es.length ≤ 1000000000) :
  ACalls Tryz.prog 154 [.one (.p (.sl 5 es))] h b 1 (rowR 5 es h b) := by
 refine ACalls.enter Tryz.func154 rfl (by simp [Tryz.ntmps154]) (fun ι w hn H => ?_)
 refine Rk ?_
 refine AWP.seq ?_
 refine Rg (fun E K hE hK => ?_)
 refine EqlR.nil_sl rfl (.inl rfl) (fun g hg => ?_)
 refine Ev ?_
 refine hK _ _ _ ?_; clear hE hK K E
 cases g
 ·refine AWP.ifF (by exact Ec) ?_
  refine AWP.skip ?_
  refine Ev ?_
  refine Rg (fun E K hE hK => ?_)
  refine BiR.of ?_
  refine BiK.append_own (e := 67) (sz := 5) (bytes := 72) (m := es.length) (xs := es.flatten.map .p) ty_slE_61 ty_tsz_67 ty_tzero_67 rfl ty_tby_67 ty_isIntT_61 (upd_same _ _ _) rfl rfl (by simp [srcA]) (okEs_flat ho _) (by omega) (by decide) (by omega) (fun cap k h1 h2 => ?_)
  refine Ev ?_
  refine hK _ _ _ ?_; clear hE hK K E
  refine AWP.ret ?_
  refine Ev ?_
  refine Ends.row (id := b) (blk := ⟨1, es.flatten.map .p ++ List.replicate k .junk⟩) hn H (lowEq_upd (Nat.le_refl _) (fun _ _ => rfl)) (Nat.le_refl _) (upd_same _ _ _) (lowCs_app (lowCs_p _ _) (lowCs_junk _ _))
   (by rw [show Tryz.f154.results.toList = [.tmp 2] from rfl]; exact Ec) (renV.win0 _ _ _ _) ⟨1, cap, List.replicate k .junk, by omega, by rw [List.length_replicate]; omega, lowCs_junk _ _, rfl, rfl⟩
 ·have he := hg rfl
  subst he
  refine AWP.ifT (by exact Ec) ?_
  refine Rk ?_
  refine AWP.virt 2 (by exact Ec) ?_
  refine AWP.ret ?_
  refine Ev ?_
  refine Ends.row (id := b) (blk := ⟨0, []⟩) hn H (lowEq_upd (Nat.le_refl _) (fun _ _ => rfl)) (Nat.le_refl _) (upd_same _ _ _) rfl
   (by rw [show Tryz.f154.results.toList = [.tmp 2] from rfl]; exact Ec) (renV.win0 _ _ _ _) ⟨0, 0, [], Nat.le_refl _, rfl, rfl, rfl, rfl⟩
theorem over_ed : isOver Tryz.prog 181 61 4 := fun args w =>
 run_callFunc_extern (fn := Tryz.f181) Tryz.func181 (by kernel_rfl) (by kernel_rfl) (by kernel_rfl) (e := Extern.SlicesOverlaps.overlaps #[61, 61] #[4]) (by kernel_rfl) args w
set_option maxHeartbeats 1600000 in
theorem insert_ed_ok (es vs : List (List PD)) (ho : okEs 5 es) (hv : okEs 5 vs) (h : Heap) (b id ver cap i : Nat) (T : List Cell) (hid : id < b) (hb : h id = some (rowB ver es T)) (hT : lowCs 0 T = true) (hcap : es.length ≤ cap)
  (hc : cap * 5 = es.length * 5 + T.length) (hi : i ≤ es.length) (hl : es.length ≤ 1000000000) (hl2 : vs.length ≤ 1000000000) :
  ACalls Tryz.prog 135 [.one (.win id ver 0 es.length cap), IntV i, .one (.p (.sl 5 vs))] h b 0 (rowR 5 (es.take i ++ (vs ++ es.drop i)) h id) := by
 refine ACalls.enter Tryz.func135 rfl (by simp [Tryz.ntmps135]) (fun ι w hn H => ?_)
 have hlow := H.lowCells
 have hfl := okEs_len ho
 have hfv := okEs_len hv
 have htl : (es.take i).length = i := by rw [List.length_take]; omega
 have hdl : (es.drop i).length = es.length - i := by simp
 have hrl : (es.take i ++ (vs ++ es.drop i)).length = es.length + vs.length := by rw [List.length_append, List.length_append, htl, hdl]; omega
 have hsplit : es.flatten.map Cell.p = (es.take i).flatten.map .p ++ (es.drop i).flatten.map .p := by rw [← List.map_append, ← List.flatten_append, List.take_append_drop]
 refine Rk ?_
 refine Rgf @hb (fun E K hE hK => ?_)
 refine ⟨⟨by omega, by omega⟩, ?_⟩
 refine hK _ _ _ ?_; clear hE hK K E
 refine Rk ?_
 refine AWP.seq ?_
 refine Rk ?_
 by_cases hv0 : (vs.length : Int) = 0
 ·refine AWP.ifT (by exact Ecf @hv0) ?_
  refine Rk ?_
  refine AWP.ret ?_
  refine Ev ?_
  have : vs = [] := List.eq_nil_of_length_eq_zero (by omega)
  subst this
  refine Ends.turn hn H hid (fun k _ => by rw [upd_self hb]) (lowCs_app (lowCs_p _ _) (lowCs_mono (Nat.zero_le _) hT)) (r0 := .one (.win id ver 0 es.length cap))
   (by rw [show Tryz.f135.results.toList = [.tmp 6] from rfl]; exact Ec) (.one (.inl ⟨rfl, by simp [lowC, hid]⟩)) ?_
  rw [List.nil_append, List.take_append_drop]
  exact ⟨ver, cap, T, hcap, hc, hT, rfl, rfl⟩
 refine AWP.ifF (by exact Ecf @hv0) ?_
 refine AWP.skip ?_
 refine Ev ?_
 refine Rkf @hb ?_
 refine AWP.seq ?_
 refine Rk ?_
 by_cases hie : (i : Int) = es.length
 ·refine AWP.ifT (by exact Ecf @hie) ?_
  refine Rgf @hb (fun E K hE hK => ?_)
  have hie' : i = es.length := by omega
  subst hie'
  have htk : (rowB ver es T).cells.take (es.length * 5) = es.flatten.map .p := by rw [List.take_left' (by rw [List.length_map, hfl])]
  refine BiR.of ?_
  refine BiK.append_own (e := 67) (sz := 5) (bytes := 72) (m := vs.length) (xs := vs.flatten.map .p) ty_slE_61 ty_tsz_67 ty_tzero_67 rfl ty_tby_67 ty_isIntT_61 hb rfl (by simp only [List.length_append, List.length_map, hfl]; omega) (by simp [srcA]) (okEs_flat hv _) (by omega) (by decide) (by omega) (fun cap' k h1 h2 => ?_)
  rw [htk]
  refine Ev ?_
  refine hK _ _ _ ?_; clear hE hK K E
  refine AWP.ret ?_
  refine Ev ?_
  refine Ends.turn hn H hid (fun k _ => rfl) (lowCs_app (lowCs_p _ _) (lowCs_app (lowCs_p _ _) (lowCs_junk _ _))) (r0 := .one (.win id (ver + 1) 0 (es.length + vs.length) cap'))
   (by rw [show Tryz.f135.results.toList = [.tmp 6] from rfl]; exact Ec) (.one (.inl ⟨rfl, by simp [lowC, hid]⟩)) ?_
  have he : es.take es.length ++ (vs ++ es.drop es.length) = es ++ vs := by simp
  rw [he]
  refine ⟨ver + 1, cap', List.replicate k .junk, by rw [List.length_append]; omega, by rw [List.length_append, List.length_replicate]; omega, lowCs_junk _ _, by rw [List.length_append], ?_⟩
  rw [rowB_app]
 refine AWP.ifF (by exact Ecf @hie) ?_
 refine AWP.skip ?_
 refine Ev ?_
 refine AWP.seq ?_
 refine Rkf @hb ?_
 have hw1 : IntKind.i64.wrap ((es.length : Int) + vs.length) = ((es.length + vs.length : Nat) : Int) := by rw [wrap_i64 (by omega) (by omega)]; omega
 by_cases hgr : cap < es.length + vs.length
 ·refine AWP.ifT (by exact Ecf (jn2 @hw1 (show (cap : Int) < ((es.length + vs.length : Nat) : Int) by omega))) ?_
  have hw2 : IntKind.i64.wrap (((es.length + vs.length : Nat) : Int) - i) = ((es.length + vs.length - i : Nat) : Int) := by rw [wrap_i64 (by omega) (by omega)]; omega
  refine Rgf (jn3 @hb @hw1 @hw2) (fun E K hE hK => ?_)
  refine ⟨⟨by omega, by omega⟩, ?_⟩
  have hsr := srcA_row (cap := cap) (off := 0) (m := i) 0 hb ho (by omega) (.inl (by omega))
  rw [List.drop_zero] at hsr
  have hne : ¬ id = b := by omega
  have hne' : ¬ b = id := by omega
  refine BiR.of ?_
  refine BiK.append_mk (e := 67) (sz := 5) (bytes := 72) (zs := [.string ByteArray.empty, .bool false, .float .f64 0, .string ByteArray.empty, .slice none 0 0]) ty_slE_61 ty_tsz_67 ty_tzero_67 rfl ty_tby_67 ty_intK_3 (by exact Ecf @hb) hsr (by omega) (by omega) (by decide) (by omega) (fun cap' k h1 h2 => ?_)
  have hsum : i + (es.length + vs.length - i) = es.length + vs.length := by omega
  rw [hsum] at h1 h2
  rw [rowB_zeros, hsum]
  have hz0 : okEs 5 (List.replicate (es.length + vs.length - i) (List.map PD.v [.string ByteArray.empty, .bool false, .float .f64 0, .string ByteArray.empty, .slice none 0 0])) := okEs_replicate rfl (by decide) _
  have hoz : okEs 5 (es.take i ++ List.replicate (es.length + vs.length - i) (List.map PD.v [.string ByteArray.empty, .bool false, .float .f64 0, .string ByteArray.empty, .slice none 0 0])) := (ho.take i).append hz0
  have hozl : (es.take i ++ List.replicate (es.length + vs.length - i) (List.map PD.v [.string ByteArray.empty, .bool false, .float .f64 0, .string ByteArray.empty, .slice none 0 0])).length = es.length + vs.length := by rw [List.length_append, htl, List.length_replicate]; omega
  have hoz1 : (es.take i ++ List.replicate (es.length + vs.length - i) (List.map PD.v [.string ByteArray.empty, .bool false, .float .f64 0, .string ByteArray.empty, .slice none 0 0])).take i = es.take i := by rw [List.take_append_of_le_length (by omega), List.take_of_length_le (by omega)]
  have hfz := okEs_len hoz
  rw [hozl] at hfz
  generalize es.take i ++ List.replicate (es.length + vs.length - i) (List.map PD.v [.string ByteArray.empty, .bool false, .float .f64 0, .string ByteArray.empty, .slice none 0 0]) = e1 at hoz hozl hfz hoz1 ⊢
  refine Ev ?_
  refine hK _ _ _ ?_; clear hE hK K E
  refine Rgf (show ¬ cap' = i by omega) (fun E K hE hK => ?_)
  refine ⟨⟨by omega, by omega⟩, ?_⟩
  refine BiR.of ?_
  refine BiK.copy (e := 67) (sz := 5) (m := vs.length) (xs := vs.flatten.map .p) ty_slE_61 ty_tsz_67 (upd_same _ _ _) rfl (by simp [srcA]) (fun c hc => okEs_flat hv _ c (List.mem_of_mem_take hc)) (by simp only [List.length_append, List.length_map, hfz, List.length_replicate]; omega) ?_
  rw [Nat.min_eq_left (by omega), List.take_of_length_le (by rw [List.length_map, hfv]; exact Nat.le_refl _), spl_els _ hoz hv (by omega) 0 rfl, hoz1]
  have hd2 : (es.take i ++ (vs ++ e1.drop (i + vs.length))).length = es.length + vs.length := by rw [List.length_append, List.length_append, List.length_drop, htl, hozl]; omega
  have ho2 : okEs 5 (es.take i ++ (vs ++ e1.drop (i + vs.length))) := (ho.take i).append (hv.append (hoz.drop _))
  have ho2t : (es.take i ++ (vs ++ e1.drop (i + vs.length))).take (i + vs.length) = es.take i ++ vs := by
   rw [← List.append_assoc, List.take_append_of_le_length (by rw [List.length_append, htl]; omega), List.take_of_length_le (by rw [List.length_append, htl]; omega)]
  have hf2 := okEs_len ho2
  rw [hd2] at hf2
  generalize es.take i ++ (vs ++ e1.drop (i + vs.length)) = e2 at hd2 ho2 ho2t hf2 ⊢
  refine Ev ?_
  refine hK _ _ _ ?_; clear hE hK K E
  have hw3 : IntKind.i64.wrap ((i : Int) + vs.length) = ((i + vs.length : Nat) : Int) := by rw [wrap_i64 (by omega) (by omega)]; omega
  refine AWP.seqRegD [] [] [b] mixed (by kernel_rfl) (by kernel_rfl) (fun K hK => .inl ?_) (by kernel_rfl); simp -implicitDefEqProofs only [go_sem, ↓reduceIte, Nat.reduceEqDiff, Nat.reduceAdd, Nat.reduceLT, Nat.reduceLeDiff, reduceCtorEq, Int.toNat_natCast, hb, ers_lit, hw3, hne, hne', show ¬ cap' = i + vs.length by omega]
  refine ⟨⟨by omega, by omega⟩, ⟨by omega, by omega⟩, ?_⟩
  have hsrc := srcA_row (h := upd h b (rowB 0 e2 (List.replicate k .junk))) (cap := cap - i) (off := if cap = i then 0 else i * 5) (m := es.length - i) i (by rw [upd_ne _ _ _ _ hne]; exact hb) ho (by omega) (by
   by_cases hcj : cap = i
   ·rw [if_pos hcj]; exact .inr ⟨by omega, rfl⟩
   ·rw [if_neg hcj]; exact .inl rfl)
  rw [List.take_of_length_le (by simp : (es.drop i).length ≤ es.length - i)] at hsrc
  refine BiD.of ?_
  refine BiK.copy (e := 67) (sz := 5) (m := es.length - i) (xs := (es.drop i).flatten.map .p) ty_slE_61 ty_tsz_67 (upd_same _ _ _) rfl hsrc (fun c hc => okEs_flat (ho.drop i) _ c (List.mem_of_mem_take hc)) (by simp only [List.length_append, List.length_map, hf2, List.length_replicate]; omega) ?_
  rw [show es.length + vs.length - (i + vs.length) = es.length - i by omega, Nat.min_self, List.take_of_length_le (by rw [List.length_map, okEs_len (ho.drop i), hdl]; exact Nat.le_refl _), upd_upd, spl_els _ ho2 (ho.drop i) (by omega) 0 rfl, ho2t,
   show e2.drop (i + vs.length + (es.drop i).length) = [] from List.drop_of_length_le (by omega), List.append_nil, List.append_assoc]
  refine ⟨Sub.reupd (sub_ers _ b) (fun c e => ?_), ?_⟩
  ·rw [ers_lit, if_pos rfl, upd_same] at e; injection e with e; subst e; exact ⟨rfl, rfl⟩
  generalize hE3 : es.take i ++ (vs ++ es.drop i) = e3 at hrl ⊢
  refine Ev ?_
  refine hK _ _ _ ?_; clear hK K
  refine Rk ?_
  refine AWP.ret ?_
  refine Ev ?_
  refine Ends.move hn H hid hb (fun k hk _ => upd_ne _ _ _ _ (Nat.ne_of_lt hk)) (Nat.le_refl _) (upd_same _ _ _) rfl (lowCs_app (lowCs_p _ _) (lowCs_junk _ _)) (off := 0) (len := es.length + vs.length) (cap := cap')
   (by rw [show Tryz.f135.results.toList = [.tmp 6] from rfl]; exact Ec) ?_
  subst hE3
  exact ⟨ver + 1, cap', List.replicate k .junk, by omega, by rw [List.length_replicate]; omega, lowCs_junk _ _, by rw [hrl], rfl⟩
 ·refine AWP.ifF (by exact Ecf (jn2 @hw1 (show ¬ (cap : Int) < ((es.length + vs.length : Nat) : Int) by omega))) ?_
  refine AWP.skip ?_
  refine Ev ?_
  refine Rgf (jn2 @hb @hw1) (fun E K hE hK => ?_)
  refine ⟨⟨by omega, by omega⟩, ?_⟩
  refine hK _ _ _ ?_; clear hE hK K E
  have hw3 : IntKind.i64.wrap ((i : Int) + vs.length) = ((i + vs.length : Nat) : Int) := by rw [wrap_i64 (by omega) (by omega)]; omega
  refine AWP.seq ?_
  refine Rgf (jn2 @hb @hw3) (fun E K hE hK => ?_)
  refine ⟨⟨by omega, by omega⟩, ?_⟩
  refine CallR.ext (over_sw over_ed ty_slE_61 ty_tsz_67 rfl (by exact Ecf @hb) (fun blk e hh => ?_) ?_)
  ·rw [hb] at e; injection e with e; subst e
   have h0 := congrArg List.length hh
   simp only [List.length_append, List.length_map, hfl, List.length_nil] at h0
   omega
  refine Ev ?_
  refine hK _ _ _ ?_; clear hE hK K E
  refine AWP.ifT (by exact Ec) ?_
  have hcim : ¬ cap = i + vs.length := by omega
  have hci : ¬ cap = i := by omega
  refine AWP.seqRegD [] [] [id] mixed (by kernel_rfl) (by kernel_rfl) (fun K hK => .inl ?_) (by kernel_rfl); simp -implicitDefEqProofs only [go_sem, ↓reduceIte, Nat.reduceEqDiff, Nat.reduceAdd, Nat.reduceLT, Nat.reduceLeDiff, reduceCtorEq, Int.toNat_natCast, hb, ers_lit, hw3, hcim, hci]
  refine ⟨⟨by omega, by omega⟩, ⟨by omega, by omega⟩, ?_⟩
  obtain ⟨xs, hsrc, hxs⟩ := srcA_room (cap := cap - i) (off := i * 5) (m := es.length + vs.length - i) i hb ho (by omega) rfl (by omega) (by omega)
  have hmin : min (es.length + vs.length - i) (es.length + vs.length - (i + vs.length)) = es.length - i := by omega
  refine BiD.of ?_
  refine BiK.copy (e := 67) (sz := 5) ty_slE_61 ty_tsz_67 hb rfl hsrc (by rw [hmin, hxs]; exact okEs_flat (ho.drop i) _) (by simp only [List.length_append, List.length_map, hfl]; omega) ?_
  rw [hmin, hxs]
  refine ⟨(sub_ers h id).upd (fun c e => ?_), ?_⟩
  ·rw [ers_lit, if_pos rfl, hb] at e; injection e with e; subst e; exact ⟨rfl, rfl⟩
  have hBl : ((es.drop i).flatten.map Cell.p).length = (es.length - i) * 5 := by rw [List.length_map, okEs_len (ho.drop i), hdl]
  have hVl : (vs.flatten.map Cell.p).length = vs.length * 5 := by rw [List.length_map, hfv]
  have hAl : ((es.take i).flatten.map Cell.p).length = i * 5 := by rw [List.length_map, okEs_len (ho.take i), htl]
  have hfin : spl (spl (es.flatten.map .p ++ T) ((i + vs.length) * 5) ((es.drop i).flatten.map .p)) (i * 5) (vs.flatten.map .p) = (es.take i ++ (vs ++ es.drop i)).flatten.map .p ++ T.drop (vs.length * 5) := by
   rw [hsplit, List.append_assoc, spl_ins hAl.symm (by rw [hAl, hVl]; omega) (by rw [hVl]; omega), hVl, List.flatten_append, List.map_append, List.flatten_append, List.map_append, List.append_assoc, List.append_assoc]
  have hc1l : (spl (es.flatten.map .p ++ T) ((i + vs.length) * 5) ((es.drop i).flatten.map .p)).length = es.length * 5 + T.length := by
   rw [spl_length (by rw [hBl, List.length_append, List.length_map, hfl]; omega), List.length_append, List.length_map, hfl]
  generalize spl (es.flatten.map .p ++ T) ((i + vs.length) * 5) ((es.drop i).flatten.map .p) = c1 at hfin hc1l ⊢
  refine Ev ?_
  refine hK _ _ _ ?_; clear hK K
  refine Rgf @hci (fun E K hE hK => ?_)
  refine ⟨⟨by omega, by omega⟩, ?_⟩
  refine BiR.of ?_
  refine BiK.copy (e := 67) (sz := 5) (m := vs.length) (xs := vs.flatten.map .p) ty_slE_61 ty_tsz_67 (upd_same _ _ _) rfl (by simp [srcA]) (fun c hc => okEs_flat hv _ c (List.mem_of_mem_take hc)) (by simp only [hc1l]; omega) ?_
  rw [Nat.min_eq_left (by omega), List.take_of_length_le (by rw [hVl]; exact Nat.le_refl _), upd_upd]
  simp only [hfin]
  generalize hE3 : es.take i ++ (vs ++ es.drop i) = e3 at hrl ⊢
  refine Ev ?_
  refine hK _ _ _ ?_; clear hE hK K E
  refine Rk ?_
  refine AWP.ret ?_
  refine Ev ?_
  refine Ends.turn hn H hid (fun _ _ => rfl) (lowCs_app (lowCs_p _ _) (lowCs_mono (Nat.zero_le _) (lowCs_drop hT _))) (r0 := .one (.win id ver 0 (es.length + vs.length) cap))
   (by rw [show Tryz.f135.results.toList = [.tmp 6] from rfl]; exact Ec) (.one (.inl ⟨rfl, by simp [lowC, hid]⟩)) ?_
  subst hE3
  exact ⟨ver, cap, T.drop (vs.length * 5), by omega, by rw [List.length_drop]; omega, lowCs_drop hT _, by rw [hrl], rfl⟩
namespace Am
theorem AWP.genT {P : Program} {C : Ctx} {Q : Exit → St → Prop} {c : Code} {s : St} (M : St → Prop) (h : M s) (k : ∀ s, M s → AWP P C c Q s) : AWP P C c Q s := k s h
theorem Inv.lessH {C : Ctx} {ι : Nat → Nat} {t : Nat → AV} {h h1 : Heap} {n : Nat} {a : Act} {w : World} (I : Inv C ι ⟨t, h, n⟩ a w) (l : ∀ i b, h1 i = some b → h i = some b) : Inv C ι ⟨t, h1, n⟩ a w := by
 have M : Moves ι h (C.b + n) w ι h1 (C.b + n) w := .less l
 refine ⟨fun i hi b e => I.outer i hi b (l i b e), fun i hi b e ne => I.fresh i hi b (l i b e) ne, fun i hi => ?_, I.heap.less l, fun j => (I.tmps j).move M, I.ntmps, I.defers, I.keeps⟩
 show h1 i = none
 cases e : h1 i with
 | none => rfl
 | some b => have e2 := l i b e; have e3 : h i = none := I.bound i hi; rw [e3] at e2; cases e2
theorem AWP.cellAt {P : Program} {C : Ctx} {Q : Exit → St → Prop} {c : Code} {t : Nat → AV} {h h1 : Heap} {n : Nat} (G k : Nat) {gb : Blk} {x y : Cell} (l : ∀ i b, h1 i = some b → h i = some b) (hG : h1 G = some gb) (hk : gb.cells[k]? = some x)
  (hxy : ∀ (ι : Nat → Nat) (w : World) (v : Value), HeapOK ι h (C.b + n) w → RCell ι h (C.b + n) w x v → RCell ι h1 (C.b + n) w y v)
  (K : AWP P C c Q ⟨t, upd h1 G ⟨gb.ver, gb.cells.set k y⟩, n⟩) : AWP P C c Q ⟨t, h, n⟩ := by
 refine .weak (fun a w ι I => ⟨ι, ?_⟩) K
 have I' := I.lessH l
 generalize hh2 : upd h1 G ⟨gb.ver, gb.cells.set k y⟩ = h2
 have hk2 : k < gb.cells.length := (List.getElem?_eq_some_iff.1 hk).1
 have hne : gb.cells ≠ [] := fun e => by rw [e] at hk2; simp at hk2
 have hat : ∀ i b', h2 i = some b' → ∃ b, h1 i = some b ∧ b.ver = b'.ver ∧ b.cells.length = b'.cells.length ∧ ((i = G ∧ b = gb ∧ b' = ⟨gb.ver, gb.cells.set k y⟩) ∨ (i ≠ G ∧ b' = b)) := by
  intro i b' e
  subst hh2
  by_cases hi : i = G
  ·subst hi; rw [upd_same] at e; injection e with e; subst e
   exact ⟨gb, hG, rfl, by simp, .inl ⟨rfl, rfl, rfl⟩⟩
  ·rw [upd_ne _ _ _ _ hi] at e
   exact ⟨b', e, rfl, rfl, .inr ⟨hi, rfl⟩⟩
 have hnil : ∀ {b b' : Blk}, b.cells.length = b'.cells.length → b'.cells ≠ [] → b.cells ≠ [] := fun e ne hz => ne (List.eq_nil_of_length_eq_zero (by rw [← e, hz]; rfl))
 have M : Moves ι h1 (C.b + n) w ι h2 (C.b + n) w := by
  refine ⟨Nat.le_refl _, fun b s _ i b' e ne => ?_, fun _ _ _ => rfl, fun i _ b' e => ?_⟩
  ·obtain ⟨b0, e0, _, hlen, _⟩ := hat i b' e
   exact s i b0 e0 (hnil hlen ne)
  ·obtain ⟨b0, e0, hv, _, _⟩ := hat i b' e
   exact ⟨b0, e0, Nat.le_of_eq hv, fun _ => rfl⟩
 refine ⟨fun i hi b' e => ?_, fun i hi b' e ne => ?_, fun i hi => ?_, ⟨fun i b' e ne => ?_, fun i j bi bj ei ej ni nj heq => ?_⟩, fun j => (I'.tmps j).move M, I'.ntmps, I'.defers, I'.keeps⟩
 ·obtain ⟨b0, e0, hv, hlen, _⟩ := hat i b' e
  obtain ⟨bb, h3, h4, h5⟩ := I'.outer i hi b0 e0
  refine ⟨bb, h3, hv ▸ h4, ?_⟩
  rcases h5 with ⟨h5, h6⟩ | ⟨h5, h6⟩
  ·exact .inl ⟨h5.trans hlen, h6⟩
  ·exact .inr ⟨hv ▸ h5, fun ne => h6 (hnil hlen ne)⟩
 ·obtain ⟨b0, e0, _, hlen, _⟩ := hat i b' e
  exact I'.fresh i hi b0 e0 (hnil hlen ne)
 ·show h2 i = none
  cases e : h2 i with
  | none => rfl
  | some b' =>
    obtain ⟨b0, e0, _⟩ := hat i b' e
    have e3 : h1 i = none := I'.bound i hi
    rw [e3] at e0; cases e0
 ·obtain ⟨b0, e0, hv, hlen, h6⟩ := hat i b' e
  obtain ⟨cc, ty, g1, g2, g3⟩ := I'.heap.blk i b0 e0 (hnil hlen ne)
  refine ⟨cc, ty, g1, g2.trans hlen, fun j d u hd hu => ?_⟩
  rcases h6 with ⟨rfl, rfl, rfl⟩ | ⟨_, rfl⟩
  ·simp only [List.getElem?_set] at hd
   by_cases hj : k = j
   ·subst hj
    rw [if_pos rfl, if_pos hk2] at hd
    injection hd with hd
    subst hd
    obtain ⟨cc', ty', g1', g2', g3'⟩ := I.heap.blk i b0 (l _ _ e0) hne
    have : cc = cc' := by rw [g1] at g1'; injection g1' with g1'; injection g1'
    subst this
    exact (hxy ι w u I.heap (g3' k x u hk hu)).move M
   ·rw [if_neg hj] at hd
    exact (g3 j d u hd hu).move M
  ·exact (g3 j d u hd hu).move M
 ·obtain ⟨b0, e0, _, hlen, _⟩ := hat i bi ei
  obtain ⟨b1, e1, _, hlen1, _⟩ := hat j bj ej
  exact I'.heap.inj i j b0 b1 e0 e1 (hnil hlen ni) (hnil hlen1 nj) heq
theorem AWP.frzAt {P : Program} {C : Ctx} {Q : Exit → St → Prop} {c : Code} {t : Nat → AV} {h : Heap} {n : Nat} (G k : Nat) {gb : Blk} {id ver len cap sz : Nat} {es : List (List PD)} (hG : h G = some gb) (hk : gb.cells[k]? = some (.win id ver 0 len cap)) (r : RowAt h id ver cap sz es) (ho : okEs sz es) (hl : es.length = len) (hne : G ≠ id)
  (K : AWP P C c Q ⟨t, upd (delH h id) G ⟨gb.ver, gb.cells.set k (.p (.sl sz es))⟩, n⟩) : AWP P C c Q ⟨t, h, n⟩ := by
 obtain ⟨T, h1, h2, h3⟩ := r
 exact AWP.cellAt G k (fun i b e => (delH_some e).2) (by rw [delH_ne _ _ _ hne]; exact hG) hk (fun ι w v H rc => frz_row H rc h1 rfl hl ho.len (row_cells ho ver T)) K
end Am
end Go.Proofs.YtihgnpboabpchaaGreatDoor
namespace Go.Proofs.YtihgnpboabpchaaGreatDoor.Am
set_option linter.unusedSimpArgs false
set_option linter.unusedVariables false
set_option linter.unnecessarySimpa false
open Go
section
variable {P : Program} {C : Ctx} {S : List Tmp} {V : List AV} {hS : Heap} {ops : Array Oper}
def cutK (P : Program) (C : Ctx) (S : List Tmp) (V : List AV) (ops : Array Oper) (k0 : Nat) (K : FinT) (t : Nat → AV) (h : Heap) (n : Nat) : Prop :=
 ∃ hS2, Sub hS2 h ∧ evD P C S V hS2 ops (opsAt ops (List.range' k0 (ops.size - k0))) t h n K
theorem evD_any2 (k0 : Nat) (hk0 : k0 ≤ ops.size) (hC : ∀ i j, k0 ≤ i → i < ops.size → j < k0 → waits ops ops.size i j = true) (hB : drawB S ops = true) (hN : ∀ (i : Nat) (o : Oper), ops[i]? = some o → dstOK C.N o.dst) {Q : Exit → Act → World → Prop} (K : FinT) (hK : ∀ t h n ι a w, K t h n → Inv C ι ⟨t, h, n⟩ a w → Q .normal a w) :
  ∀ (m : Nat) (R : List Nat) (listed : Array Bool) (t : Nat → AV) (h : Heap) (n : Nat) (ι : Nat → Nat) (a : Act) (w : World), R.length = m → listed.size = ops.size → R.Pairwise (· < ·) → (∀ i ∈ R, i < k0) → (∀ i, (i ∈ R ∨ k0 ≤ i ∧ i < ops.size) ↔ i < ops.size ∧ listed.getD i true = false) →
    (∀ (k : Nat) (ok : Oper), ops[k]? = some ok → listed.getD k true = true → ∀ e ∈ ok.after, Region.binds .any e = true → listed.getD e.on true = true) →
    Inv C ι ⟨t, h, n⟩ a w → Sub hS h → evD P C S V hS ops (opsAt ops R) t h n (cutK P C S V ops k0 K) → wpAny P .any ops Q (m + (ops.size - k0)) listed a w := by
 intro m
 induction m with
 | zero =>
   intro R listed t h n ι a w hm hsz _ _ hR hcl I hs e
   have : R = [] := List.eq_nil_of_length_eq_zero hm
   subst this
   obtain ⟨hS2, hs2, e2⟩ : cutK P C S V ops k0 K t h n := e
   rw [Nat.zero_add]
   refine evD_any (hS := hS2) hB hN K hK (ops.size - k0) (List.range' k0 (ops.size - k0)) listed t h n ι a w (by simp) hsz List.pairwise_lt_range' (fun i => ?_) hcl I hs2 e2
   rw [← hR i, List.mem_range'_1]
   constructor
   ·intro q; exact .inr ⟨q.1, by omega⟩
   ·rintro (q | q)
    ·cases q
    ·exact ⟨q.1, by omega⟩
 | succ m ih =>
   intro R listed t h n ι a w hm hsz hord hlt0 hR hcl I hs e
   rw [show m + 1 + (ops.size - k0) = (m + (ops.size - k0)) + 1 by omega]
   refine ⟨fun h0 => ?_, fun i hi => ?_⟩
   ·-- the first one of the text may come up
    exfalso
    cases R with
    | nil => simp at hm
    | cons i0 R' =>
      obtain ⟨hi0, hl0⟩ := (hR i0).1 (by simp)
      have hi0k := hlt0 i0 (by simp)
      have hop : ops[i0]? = some ops[i0] := Array.getElem?_eq_getElem hi0
      have : i0 ∈ Region.ready .any ops listed := by
       refine mem_ready.2 ⟨hl0, ops[i0], hop, fun e he hb => ?_⟩
       have hlt := (drawB_spec hB hop).1 e he hb
       have hnot : ¬ (e.on ∈ i0 :: R' ∨ k0 ≤ e.on ∧ e.on < ops.size) := by
        rintro (hmem | hmem)
        ·rcases List.mem_cons.1 hmem with h1 | h1
         ·omega
         ·have := (List.pairwise_cons.1 hord).1 _ h1; omega
        ·omega
       rw [hR] at hnot
       have h3 : listed.getD e.on true = true := by
        cases hh : listed.getD e.on true with
        | true => rfl
        | false => exact absurd ⟨by omega, hh⟩ hnot
       rw [← listed_true (by omega)]
       exact h3
      rw [h0] at this
      cases this
   ·obtain ⟨hli, oi, hoi, hall⟩ := mem_ready.1 hi
    have hilt : i < ops.size := (Array.getElem?_eq_some_iff.1 hoi).1
    have hall0 : ∀ e ∈ oi.after, Region.binds .any e = true → listed.getD e.on true = true := fun e he hb => by
     have h1 := hall e he hb
     rcases Nat.lt_or_ge e.on listed.size with hlt | hge
     ·rw [listed_true hlt]; exact h1
     ·simp [Array.getElem?_eq_none hge] at h1
    have hiR : i ∈ R := by
     rcases (hR i).2 ⟨hilt, hli⟩ with q | q
     ·exact q
     ·exfalso
      cases R with
      | nil => simp at hm
      | cons i0 R' =>
        have h1 := waits_listed hcl ops.size i i0 oi hoi hall0 (hC i i0 q.1 q.2 (hlt0 i0 (by simp)))
        have h2 := ((hR i0).1 (by simp)).2
        rw [h1] at h2
        cases h2
    obtain ⟨R1, R2, rfl⟩ := List.append_of_mem hiR
    obtain ⟨p1, p2, p3⟩ := List.pairwise_append.1 hord
    have hall' : ∀ e ∈ oi.after, Region.binds .any e = true → listed.getD e.on true = true := fun e he hb => by
     have h1 := hall e he hb
     rcases Nat.lt_or_ge e.on listed.size with hlt | hge
     ·rw [listed_true hlt]; exact h1
     ·simp [Array.getElem?_eq_none hge] at h1
    have hfree : ∀ x ∈ opsAt ops R1, free2 S ops x oi = true := by
     intro x hx
     obtain ⟨j, hj, hxj⟩ := List.mem_filterMap.1 hx
     have hji : j < i := p3 j hj i (by simp)
     rcases (drawB_spec hB hoi).2 j x hji hxj with hw | hf
     ·have h1 := waits_listed hcl ops.size i j oi hoi hall' hw
      have h2 := ((hR j).1 (by simp [hj])).2
      rw [h1] at h2
      cases h2
     ·exact hf
    have hdst : ∀ x ∈ opsAt ops R1, dstOK C.N x.dst := by
     intro x hx
     obtain ⟨j, _, hxj⟩ := List.mem_filterMap.1 hx
     exact hN j x hxj
    have hsplit : opsAt ops (R1 ++ i :: R2) = opsAt ops R1 ++ oi :: opsAt ops R2 := by
     unfold opsAt
     rw [List.filterMap_append, List.filterMap_cons, hoi]
    rw [hsplit] at e
    have e := evD_first (opsAt ops R1) hfree hdst I hs e
    have happ : opsAt ops R1 ++ opsAt ops R2 = opsAt ops (R1 ++ R2) := by unfold opsAt; rw [List.filterMap_append]
    rw [happ] at e
    have hlen : (R1 ++ R2).length = m := by simp at hm ⊢; omega
    have hord' : (R1 ++ R2).Pairwise (· < ·) := List.pairwise_append.2 ⟨p1, (List.pairwise_cons.1 p2).2, fun x hx y hy => p3 x hx y (by simp [hy])⟩
    have hni : i ∉ R1 ++ R2 := by
     intro hmem
     rcases List.mem_append.1 hmem with h1 | h1
     ·have := p3 i h1 i (by simp); omega
     ·have := (List.pairwise_cons.1 p2).1 i h1; omega
    have hik0 : i < k0 := hlt0 i (by simp)
    have hlt' : ∀ k ∈ R1 ++ R2, k < k0 := fun k hk => hlt0 k (by
     rcases List.mem_append.1 hk with q | q
     ·exact List.mem_append.2 (.inl q)
     ·exact List.mem_append.2 (.inr (List.mem_cons_of_mem _ q)))
    have hR' : ∀ k, (k ∈ R1 ++ R2 ∨ k0 ≤ k ∧ k < ops.size) ↔ k < ops.size ∧ (listed.setIfInBounds i true).getD k true = false := by
     intro k
     rw [getD_set]
     by_cases hik : i = k
     ·subst hik
      rw [if_pos rfl]
      exact ⟨fun hmem => by rcases hmem with q | q; exact absurd q hni; omega, fun hh => by cases hh.2⟩
     ·rw [if_neg hik, ← hR k]
      simp only [List.mem_append, List.mem_cons]
      exact ⟨fun hh => by rcases hh with (hh | hh) | hh; exact .inl (.inl hh); exact .inl (.inr (.inr hh)); exact .inr hh, fun hh => by rcases hh with (hh | hh | hh) | hh; exact .inl (.inl hh); exact absurd hh.symm hik; exact .inl (.inr hh); exact .inr hh⟩
    have hcl' : ∀ (k : Nat) (ok : Oper), ops[k]? = some ok → (listed.setIfInBounds i true).getD k true = true → ∀ e ∈ ok.after, Region.binds .any e = true → (listed.setIfInBounds i true).getD e.on true = true := by
     intro k ok hk hl e he hb
     rw [getD_set] at hl ⊢
     split
     ·rfl
     ·by_cases hik : i = k
      ·subst hik
       rw [hoi] at hk
       injection hk with hk
       subst hk
       exact hall' e he hb
      ·rw [if_neg hik] at hl
       exact hcl k ok hk hl e he hb
    have next : ∀ (v : Value) (av : AV) (h' : Heap) (n' : Nat) (ι' : Nat → Nat) (w' : World), Sub hS h' → evD P C S V hS ops (opsAt ops (R1 ++ R2)) (putT t oi.dst av) h' n' (cutK P C S V ops k0 K) → Inv C ι' ⟨t, h', n'⟩ a w' → RAV ι' h' (C.b + n') w' av v →
      wpAny P .any ops Q (m + (ops.size - k0)) (listed.setIfInBounds i true) (a.put oi.dst v) w' := by
     intro v av h' n' ι' w' hs' e' I' hr
     exact ih (R1 ++ R2) _ _ h' n' ι' _ w' hlen (by simpa using hsz) hord' hlt' hR' hcl' (I'.put (hN i oi hoi) hr) hs' e'
    unfold wpOp
    simp only [hoi]
    unfold evD at e
    by_cases hsim : simpleP S oi = true
    ·rw [if_pos hsim] at e
     obtain ⟨av, hv, okv, e⟩ := e
     unfold valD at hv
     split at hv
     ·rename_i hwant
      rw [wanted_ok I hN hwant, if_pos rfl]
      refine .inl ?_
      split at hv
      ·obtain ⟨v, w', h1, I', h2⟩ := sopX_ok (P := P) I (sopX_mono hs hv)
       unfold Oper.wp
       rw [h1, Oper.upon_value]
       exact next v av h n ι w' hs e I' h2
      ·rename_i hsb
       have p : PureC P hS t oi.op av := by
        rcases okv with okv | okv | okv
        ·exact absurd okv hsb
        ·rw [hwant] at okv; cases okv
        ·exact okv
       exact pure_wp (C := C) (n := n) hs p a w ι I _ Q (fun _ _ _ _ _ hf _ => hf.elim) (fun v av' h' n' ι' w' hk hI hr => by
        obtain ⟨rfl, rfl, rfl⟩ := hk
        exact next v _ _ _ ι' w' hs e hI hr)
     ·rename_i hwant
      rw [wanted_ok I hN hwant, if_neg (by simp)]
      injection hv with hv
      subst hv
      exact next undef _ h n ι w hs e I (rav_v _)
     ·cases hv
    ·rw [if_neg hsim] at e
     unfold sigD at e
     split at e
     ·rename_i hwant
      rw [wanted_ok I hN hwant, if_pos rfl]
      refine .inl ?_
      exact aop_ok e a w ι I _ Q (fun _ _ _ _ _ hf _ => hf.elim) (fun v av h' n' ι' w' hk hI hr => next v av h' n' ι' w' hk.1 hk.2 hI hr)
     ·rename_i hwant
      rw [wanted_ok I hN hwant, if_neg (by simp)]
      exact next undef _ h n ι w hs e I (rav_v _)
     ·exact e.elim
def cutB (k0 : Nat) (ops : Array Oper) : Bool := decide (k0 ≤ ops.size) && (List.range ops.size).all fun i => decide (i < k0) || (List.range k0).all fun j => waits ops ops.size i j
theorem ops_take (ops : Array Oper) : ∀ n, n ≤ ops.size → opsAt ops (List.range n) = ops.toList.take n := by
 intro n
 unfold opsAt
 induction n with
 | zero => simp
 | succ n ih =>
   intro hn
   rw [List.range_succ, List.filterMap_append, ih (by omega), List.take_add_one]
   congr 1
   have : ops[n]? = some ops[n] := Array.getElem?_eq_getElem (by omega)
   simp [this]
theorem ops_drop (ops : Array Oper) (k : Nat) (hk : k ≤ ops.size) : opsAt ops (List.range' k (ops.size - k)) = ops.toList.drop k := by
 have h1 := ops_take ops ops.size (Nat.le_refl _)
 have h2 := ops_take ops k hk
 have e : List.range ops.size = List.range k ++ List.range' k (ops.size - k) := by
  have := List.range'_append_1 (s := 0) (m := k) (n := ops.size - k)
  rw [Nat.zero_add] at this
  rw [List.range_eq_range', List.range_eq_range', this]
  congr 1; omega
 rw [e] at h1
 unfold opsAt at h1 h2 ⊢
 rw [List.filterMap_append, h2] at h1
 have h3 : (ops.toList.take ops.size) = ops.toList.take k ++ ops.toList.drop k := by
  rw [List.take_append_drop, List.take_of_length_le (by simp)]
 rw [h3] at h1
 exact List.append_cancel_left h1
theorem AWP.regionC (k0 : Nat) {Q : Exit → St → Prop} {s : St} {id : Nat} (hm : P.follows .mixedOrders = true) (hB : drawB S ops = true) (hC : cutB k0 ops = true) (hN : dstsB C.N ops.toList = true) (hs : Sub hS s.h)
  (e : evD P C S V hS ops (ops.toList.take k0) s.t s.h s.n (fun t h n => ∃ hS2, Sub hS2 h ∧ evD P C S V hS2 ops (ops.toList.drop k0) t h n (fun t h n => Q .normal ⟨t, h, n⟩))) (hr : C.x.rd = none := by rfl) : AWP P C (.region id ops true) Q s := by
 refine AWP.of_wp hr (fun a w ι I => ?_)
 refine wp_region_any hm ?_
 have hN' : ∀ (i : Nat) (o : Oper), ops[i]? = some o → dstOK C.N o.dst := by
  intro i o hi
  have := List.all_eq_true.1 hN o (List.mem_of_getElem? (i := i) (by simpa using hi))
  unfold dstOK
  cases hdd : o.dst with
  | none => trivial
  | some d => rw [hdd] at this; simpa using this
 unfold cutB at hC
 simp only [Bool.and_eq_true, decide_eq_true_eq, List.all_eq_true, List.mem_range, Bool.or_eq_true] at hC
 obtain ⟨hk, hC⟩ := hC
 have := evD_any2 (S := S) (V := V) (hS := hS) (Q := fun e a' w' => ∃ s' ι', Q e s' ∧ Inv C ι' s' a' w') k0 hk (fun i j h1 h2 h3 => (hC i h2).resolve_left (by omega) j h3) hB hN' (fun t h n => Q .normal ⟨t, h, n⟩) (fun t h n ι' a' w' hk I' => ⟨_, ι', hk, I'⟩) k0 (List.range k0) (Array.replicate ops.size false) s.t s.h s.n ι a { w with drawn := w.drawn + 1 }
  (by simp) (by simp) List.pairwise_lt_range (fun i hi => List.mem_range.1 hi) (fun i => by
   simp only [List.mem_range]
   constructor
   ·intro hi; exact ⟨by omega, by simp [Array.getD, show i < ops.size by omega]⟩
   ·intro hi; omega) (fun k ok hk hl => by
   have hlt : k < ops.size := (Array.getElem?_eq_some_iff.1 hk).1
   simp [Array.getD, hlt] at hl) I.drew hs (by
   rw [ops_take ops k0 hk]
   refine evD_mono _ _ _ _ (fun t h n k => ?_) e
   unfold cutK
   rw [ops_drop ops k0 hk]
   exact k)
 rw [show k0 + (ops.size - k0) = ops.size by omega] at this
 exact this
theorem evD_ops {S : List Tmp} {V : List AV} {hS : Heap} : ∀ (l : List Oper) (t : Nat → AV) (h : Heap) (n : Nat) (K : FinT), (∀ o ∈ l, o.guard = none) → evD P C S V hS #[] l t h n K → evD P C S V hS ops l t h n K := by
 intro l
 induction l with
 | nil => intro t h n K _ e; exact e
 | cons o l ih =>
   intro t h n K hgl e
   have hgo : o.guard = none := hgl o (by simp)
   have hw : ∀ (os : Array Oper) t, wantD os t o = some true := by intro os t; unfold wantD; rw [hgo]
   unfold evD at e ⊢
   split at e
   ·rename_i hs
    rw [if_pos hs]
    obtain ⟨v, hv, ok, e⟩ := e
    refine ⟨v, ?_, ?_, ih _ _ _ _ (fun o ho => hgl o (by simp [ho])) e⟩
    ·unfold valD at hv ⊢
     rw [hw] at hv ⊢
     exact hv
    ·unfold okD at ok ⊢
     rw [hw] at ok ⊢
     exact ok
   ·rename_i hs
    rw [if_neg hs]
    unfold sigD at e ⊢
    rw [hw] at e ⊢
    exact aop_mono (fun v h' n' ⟨s, e⟩ => ⟨s, ih _ _ _ _ (fun o ho => hgl o (by simp [ho])) e⟩) e
def Part2 (P : Program) (C : Ctx) (S : List Tmp) (V : List AV) (l : List Oper) (K : FinT) (t : Nat → AV) (h : Heap) (n : Nat) : Prop := ∃ hS2, Sub hS2 h ∧ evD P C S V hS2 #[] l t h n K
theorem P2 {P : Program} {C : Ctx} {S : List Tmp} {V : List AV} {l : List Oper} {K : FinT} {t : Nat → AV} {h : Heap} {n : Nat} (hS2 : Heap) (s : Sub hS2 h) (e : evD P C S V hS2 #[] l t h n K) : Part2 P C S V l K t h n := ⟨hS2, s, e⟩
theorem AWP.seqRegC (k0 : Nat) (S : List Tmp) (V : List AV) {P : Program} {C : Ctx} {Q : Exit → St → Prop} {s : St} {id : Nat} {ops : Array Oper} {y : Code} (hS : Heap) (hsub : Sub hS s.h) (hm : P.follows .mixedOrders = true) (hB : drawB S ops = true) (hC : cutB k0 ops = true) (hN : dstsB C.N ops.toList = true)
  (e : ∀ K : FinT, (∀ t h n, AWP P C y Q ⟨t, h, n⟩ → K t h n) → evD P C S V hS #[] (ops.toList.take k0) s.t s.h s.n (Part2 P C S V (ops.toList.drop k0) K)) (hg : (ops.all fun o => o.guard.isNone) = true) (hr : C.x.rd = none := by rfl) : AWP P C (.seq (.region id ops true) y) Q s := by
 have hgo : ∀ o ∈ ops.toList, o.guard = none := fun o ho => by
  have := Array.all_eq_true_iff_forall_mem.1 hg o (by simpa using ho)
  simpa using this
 refine .seq (AWP.regionC (V := V) k0 hm hB hC hN hsub ?_ hr)
 refine evD_ops _ _ _ _ _ (fun o ho => hgo o (List.mem_of_mem_take ho)) ?_
 refine evD_mono _ _ _ _ (fun t h n k => ?_) (e _ (fun t h n k => k))
 obtain ⟨hS2, s2, k⟩ := k
 exact ⟨hS2, s2, evD_ops _ _ _ _ _ (fun o ho => hgo o (List.mem_of_mem_drop ho)) k⟩
end
end Go.Proofs.YtihgnpboabpchaaGreatDoor.Am
namespace Go.Proofs.YtihgnpboabpchaaGreatDoor
set_option linter.unusedSimpArgs false
set_option linter.unusedVariables false
set_option linter.unnecessarySimpa false
open Go Am
namespace Am
def lessC (c d : Cell) : Prop := c = d ∨ ∃ sz, c = .p (.v (.slice none 0 0)) ∧ d = .p (.sl sz [])
def lessL : List Cell → List Cell → Prop
 | [], [] => True
 | c :: cs, d :: ds => lessC c d ∧ lessL cs ds
 | _, _ => False
def lessV : AV → AV → Prop
 | .agg cs, .agg ds => lessL cs ds
 | .one c, .one d => lessC c d
 | x, y => x = y
def lessVs : List AV → List AV → Prop
 | [], [] => True
 | c :: cs, d :: ds => lessV c d ∧ lessVs cs ds
 | _, _ => False
theorem lessC.refl (c : Cell) : lessC c c := .inl rfl
theorem lessC.nil (sz : Nat) : lessC (.p (.v (.slice none 0 0))) (.p (.sl sz [])) := .inr ⟨sz, rfl, rfl⟩
theorem lessL.refl : ∀ l, lessL l l
 | [] => trivial
 | c :: l => ⟨.refl c, lessL.refl l⟩
theorem lessL.len : ∀ {l m}, lessL l m → l.length = m.length
 | [], [], _ => rfl
 | _ :: _, _ :: _, h => by rw [List.length_cons, List.length_cons, h.2.len]
 | [], _ :: _, h => h.elim
 | _ :: _, [], h => h.elim
theorem lessL.at : ∀ {l m}, lessL l m → ∀ {i : Nat} {c d : Cell}, l[i]? = some c → m[i]? = some d → lessC c d
 | [], _, _, _, _, _, hc, _ => by simp at hc
 | _ :: _, [], h, _, _, _, _, _ => h.elim
 | c :: l, d :: m, h, 0, _, _, hc, hd => by simp at hc hd; subst hc; subst hd; exact h.1
 | c :: l, d :: m, h, i + 1, _, _, hc, hd => h.2.at (i := i) (by simpa using hc) (by simpa using hd)
theorem lessVs.len : ∀ {l m}, lessVs l m → l.length = m.length
 | [], [], _ => rfl
 | _ :: _, _ :: _, h => by rw [List.length_cons, List.length_cons, h.2.len]
 | [], _ :: _, h => h.elim
 | _ :: _, [], h => h.elim
theorem lessVs.at : ∀ {l m}, lessVs l m → ∀ {i : Nat} {c d : AV}, l[i]? = some c → m[i]? = some d → lessV c d
 | [], _, _, _, _, _, hc, _ => by simp at hc
 | _ :: _, [], h, _, _, _, _, _ => h.elim
 | c :: l, d :: m, h, 0, _, _, hc, hd => by simp at hc hd; subst hc; subst hd; exact h.1
 | c :: l, d :: m, h, i + 1, _, _, hc, hd => h.2.at (i := i) (by simpa using hc) (by simpa using hd)
theorem lessV.refl (x : AV) : lessV x x := by
 cases x with
 | one c => exact lessC.refl c
 | agg l => exact lessL.refl l
 | tup l => rfl
theorem lessC.ok {ι : Nat → Nat} {h : Heap} {bd : Nat} {w : World} {c d : Cell} {v : Value} (l : lessC c d) (r : RCell ι h bd w c v) : RCell ι h bd w d v := by
 rcases l with rfl | ⟨sz, rfl, rfl⟩
 ·exact r
 ·cases r with
  | p hd => cases hd with
    | v => exact .p (RPD.sl (es := []) none 0 (fun _ _ => undef) (Nat.le_refl _) (fun _ => rfl) (fun _ e => by cases e) (fun _ e => by cases e) (fun _ _ e => by simp at e) (fun _ _ e => by simp at e))
theorem lessV.ok {ι : Nat → Nat} {h : Heap} {bd : Nat} {w : World} {x y : AV} {v : Value} (l : lessV x y) (r : RAV ι h bd w x v) : RAV ι h bd w y v := by
 cases r with
 | one hc =>
   cases y with
   | one d => exact .one (lessC.ok l hc)
   | _ => cases l
 | agg V hl hv =>
   cases y with
   | agg ds =>
     refine .agg V (hl.trans (lessL.len l)) (fun i d u hd hu => ?_)
     have hi : i < V.length := (List.getElem?_eq_some_iff.1 hu).1
     rename_i cs
     have hc := List.getElem?_eq_getElem (l := cs) (i := i) (by omega)
     exact (lessL.at l hc hd).ok (hv i _ u hc hu)
   | _ => cases l
 | tup V hl hv =>
   cases y with
   | tup ds => cases l; exact .tup V hl hv
   | _ => cases l
theorem ACalls.argNil {P : Program} {f : FuncId} {args args' : List AV} {h : Heap} {b m : Nat} {R : AV → Heap → Prop} (c : ACalls P f args' h b m R) (l : lessVs args args') : ACalls P f args h b m R := by
 intro ι w vs hb hh ha
 refine c ι w vs hb hh ⟨ha.1.trans l.len, fun i d u hd hu => ?_⟩
 have hi : i < vs.length := (List.getElem?_eq_some_iff.1 hu).1
 have hc := List.getElem?_eq_getElem (l := args) (i := i) (by have := ha.1; omega)
 exact (l.at hc hd).ok (ha.2 i _ u hc hu)
theorem AWP.nilsAt {P : Program} {C : Ctx} {Q : Exit → St → Prop} {c : Code} {t : Nat → AV} {h : Heap} {n : Nat} (G : Nat) {gb : Blk} {cs : List Cell} (hG : h G = some gb) (l : lessL gb.cells cs)
  (K : AWP P C c Q ⟨t, upd h G ⟨gb.ver, cs⟩, n⟩) : AWP P C c Q ⟨t, h, n⟩ := by
 refine .weak (fun a w ι I => ⟨ι, ?_⟩) K
 have hll := l.len
 generalize hh2 : upd h G ⟨gb.ver, cs⟩ = h2
 have hat : ∀ i b', h2 i = some b' → ∃ b, h i = some b ∧ b.ver = b'.ver ∧ b.cells.length = b'.cells.length ∧ lessL b.cells b'.cells := by
  intro i b' e
  subst hh2
  by_cases hi : i = G
  ·subst hi; rw [upd_same] at e; injection e with e; subst e
   exact ⟨gb, hG, rfl, hll, l⟩
  ·rw [upd_ne _ _ _ _ hi] at e
   exact ⟨b', e, rfl, rfl, lessL.refl _⟩
 have hnil : ∀ {b b' : Blk}, b.cells.length = b'.cells.length → b'.cells ≠ [] → b.cells ≠ [] := fun e ne hz => ne (List.eq_nil_of_length_eq_zero (by rw [← e, hz]; rfl))
 have M : Moves ι h (C.b + n) w ι h2 (C.b + n) w := by
  refine ⟨Nat.le_refl _, fun b s _ i b' e ne => ?_, fun _ _ _ => rfl, fun i _ b' e => ?_⟩
  ·obtain ⟨b0, e0, _, hlen, _⟩ := hat i b' e
   exact s i b0 e0 (hnil hlen ne)
  ·obtain ⟨b0, e0, hv, _, _⟩ := hat i b' e
   exact ⟨b0, e0, Nat.le_of_eq hv, fun _ => rfl⟩
 refine ⟨fun i hi b' e => ?_, fun i hi b' e ne => ?_, fun i hi => ?_, ⟨fun i b' e ne => ?_, fun i j bi bj ei ej ni nj heq => ?_⟩, fun j => (I.tmps j).move M, I.ntmps, I.defers, I.keeps⟩
 ·obtain ⟨b0, e0, hv, hlen, _⟩ := hat i b' e
  obtain ⟨bb, h3, h4, h5⟩ := I.outer i hi b0 e0
  refine ⟨bb, h3, hv ▸ h4, ?_⟩
  rcases h5 with ⟨h5, h6⟩ | ⟨h5, h6⟩
  ·exact .inl ⟨h5.trans hlen, h6⟩
  ·exact .inr ⟨hv ▸ h5, fun ne => h6 (hnil hlen ne)⟩
 ·obtain ⟨b0, e0, _, hlen, _⟩ := hat i b' e
  exact I.fresh i hi b0 e0 (hnil hlen ne)
 ·show h2 i = none
  cases e : h2 i with
  | none => rfl
  | some b' =>
    obtain ⟨b0, e0, _⟩ := hat i b' e
    have e3 : h i = none := I.bound i hi
    rw [e3] at e0; cases e0
 ·obtain ⟨b0, e0, hv, hlen, h6⟩ := hat i b' e
  obtain ⟨cc, ty, g1, g2, g3⟩ := I.heap.blk i b0 e0 (hnil hlen ne)
  refine ⟨cc, ty, g1, g2.trans hlen, fun j d u hd hu => ?_⟩
  have hj : j < b'.cells.length := (List.getElem?_eq_some_iff.1 hd).1
  have hc := List.getElem?_eq_getElem (l := b0.cells) (i := j) (by omega)
  exact ((h6.at hc hd).ok (g3 j _ u hc hu)).move M
 ·obtain ⟨b0, e0, _, hlen, _⟩ := hat i bi ei
  obtain ⟨b1, e1, _, hlen1, _⟩ := hat j bj ej
  exact I.heap.inj i j b0 b1 e0 e1 (hnil hlen ni) (hnil hlen1 nj) heq
end Am
set_option linter.unusedSimpArgs false
set_option linter.unusedVariables false
set_option linter.unnecessarySimpa false
open Go Am
set_option maxRecDepth 100000
def risI (l : List S) (most : Int) (h : Heap) (i : Nat) (st : St) : Prop :=
 st.h = h ∧ st.t 0 = ListV l ∧ st.t 1 = IntV most ∧ st.t 9 = ListV l ∧ st.t 10 = IntV l.length ∧ st.t 11 = IntV (i : Nat) ∧ riseF none l = riseF (if i = 0 then none else l[i - 1]?) (l.drop i)
theorem rises_ok (l : List S) (most : Nat) (hl : l.length ≤ 1000000) (h : Heap) (b : Nat) : ACalls Tryz.prog 102 [ListV l, IntV most] h b 0 (fun r h' => r = BoolV (risesX l most) ∧ h' = h) := by
 refine ACalls.enter Tryz.func102 rfl (by simp [Tryz.ntmps102]) (fun ι w hn H => ?_)
 have fin : ∀ (t : Nat → AV) (n : Nat) (v : Bool), t 4 = BoolV v → v = risesX l most → Am.Ends Tryz.prog ⟨Tryz.f102.ntmps, b, ι, h, w, x0⟩ Tryz.f102 0 (fun r h' => r = BoolV (risesX l most) ∧ h' = h) ⟨t, h, n⟩ := by
  intro t n v ht hv
  exact Ends.pure hn H (fun _ _ => rfl) (r0 := BoolV v) (by rw [show Tryz.f102.results.toList = [.tmp 4] from rfl]; exact Ecf @ht) (.v _) ⟨by rw [hv], rfl⟩
 refine Rk ?_
 refine AWP.seq ?_
 refine Rk ?_
 refine AWP.block ?_
 refine AWP.loopK 0 (fun m st => ∃ i, i ≤ l.length ∧ m = l.length - i ∧ risI l most h i st) l.length rfl ⟨0, Nat.zero_le _, rfl, rfl, by exact Er, by exact Er, by exact Er, by exact Er, by exact Er, rfl⟩ ?_
 rintro m ⟨t, hh, n⟩ ⟨i, hi, rfl, rfl, e0, e1, e9, e10, e11, hr⟩ hn1
 simp only at e0 e1 e9 e10 e11 hn1
 subst hn1
 have hw1 : IntKind.i64.wrap ((i : Int) + 1) = ((i + 1 : Nat) : Int) := by rw [wrap_i64 (by omega) (by omega)]; rfl
 refine Rkf (jn2 @e10 @e11) ?_
 refine AWP.seq ?_
 by_cases hlt : (i : Int) < l.length
 ·refine Btf @hlt ?_
  refine AWP.skip ?_
  refine Ev ?_
  refine AWP.seq ?_
  refine AWP.block ?_
  have hi2 : i < l.length := by omega
  obtain ⟨p, hp⟩ : ∃ p, l[i] = p := ⟨_, rfl⟩
  have hge : (l.map encS).getD i [] = [.v (.string (mkS p))] := by rw [encS_getD _ i hi2, hp]
  have hdr : l.drop i = p :: l.drop (i + 1) := by rw [List.drop_eq_getElem_cons hi2, hp]
  have hpi : l[i]? = some p := by rw [List.getElem?_eq_getElem hi2, hp]
  refine Rgf (jn4 @e9 @e11 @hlt @hge) (fun E K hE hK => ?_)
  refine ⟨by omega, ?_⟩
  refine hK _ _ _ ?_; clear hE hK K E
  refine AWP.seq ?_
  refine Rg (fun E K hE hK => ?_)
  refine Us (Check_ok (mkS p) _ _) body_31 ?_
  refine Evf @mkS_list ?_
  refine hK _ _ _ ?_; clear hE hK K E
  by_cases hc : chkN p = 0
  ·refine Bsf @hc ?_
   refine AWP.seq ?_
   refine Rk ?_
   by_cases h0 : i = 0
   ·subst h0
    have h0' : ((0 : Nat) : Int) = 0 := rfl
    refine Btf @h0' ?_
    refine AWP.exit ?_
    refine Ev ?_
    refine Raf (jn2 @e11 @hw1) (fun E K hE hK => ?_); refine hK _ _ _ ?_; clear hE hK K E
    refine ⟨rfl, _, ?_, 1, by omega, rfl, rfl, by exact Ecf @e0, by exact Ecf @e1, by exact Ecf @e9, by exact Ecf @e10, by exact Er, ?_⟩
    ·omega
    ·rw [hr, hdr, if_pos rfl, if_neg (by decide), hpi]
     show (decide (chkN p = 0) && (true && _)) = _
     rw [decide_eq_true hc]; simp
   ·have h0' : ¬ (i : Int) = 0 := by omega
    refine Bsf @h0' ?_
    rw [if_neg h0, hdr] at hr
    have hi3 : i - 1 < l.length := by omega
    obtain ⟨q, hq⟩ : ∃ q, l[i - 1] = q := ⟨_, rfl⟩
    have hqi : l[i - 1]? = some q := by rw [List.getElem?_eq_getElem hi3, hq]
    rw [hqi] at hr
    have hge2 : (l.map encS).getD (i - 1) [] = [.v (.string (mkS q))] := by rw [encS_getD _ (i - 1) hi3, hq]
    have hwm : IntKind.i64.wrap ((i : Int) - 1) = ((i - 1 : Nat) : Int) := by rw [wrap_i64 (by omega) (by omega)]; omega
    have hlt2 : ((i - 1 : Nat) : Int) < l.length := by omega
    have hr2 : riseF none l = ((decide ((cmpN q p).2 = 0) && decide ((cmpN q p).1 < 0)) && riseF (some p) (l.drop (i + 1))) := by
     rw [hr]
     show (decide (chkN p = 0) && _) = _
     rw [decide_eq_true hc, Bool.true_and]
    obtain ⟨c, e, hce⟩ : ∃ c e, cmpN q p = (c, e) := ⟨_, _, rfl⟩
    rw [hce] at hr2
    simp only at hr2
    refine Rgf (jn5 @e0 @e11 @hwm @hlt2 @hge2) (fun E K hE hK => ?_)
    refine ⟨by omega, ?_⟩
    refine Us (Cmp_ok (mkS q) (mkS p) _ _) body_119 ?_
    refine Evf (jn2 @mkS_list @hce) ?_
    refine hK _ _ _ ?_; clear hE hK K E
    by_cases he : e = 0
    ·by_cases hc0 : 0 ≤ c
     ·refine Rkf (jn2 @he @hc0) ?_
      refine Bt ?_
      refine Rk ?_
      refine AWP.ret ?_
      refine Ev ?_
      exact fin _ _ false (by exact Er) (by unfold risesX; rw [hr2, decide_eq_false (show ¬ c < 0 by omega)]; simp)
     ·refine Rkf (jn2 @he @hc0) ?_
      refine Bf ?_
      refine AWP.skip ?_
      refine Ev ?_
      refine Raf (jn2 @e11 @hw1) (fun E K hE hK => ?_); refine hK _ _ _ ?_; clear hE hK K E
      refine ⟨rfl, _, ?_, i + 1, by omega, rfl, rfl, by exact Ecf @e0, by exact Ecf @e1, by exact Ecf @e9, by exact Ecf @e10, by exact Er, ?_⟩
      ·omega
      ·rw [hr2, decide_eq_true he, decide_eq_true (show c < 0 by omega), if_neg (by omega), Nat.add_sub_cancel, hpi]; rfl
    ·refine Rkf @he ?_
     refine Bt ?_
     refine Rk ?_
     refine AWP.ret ?_
     refine Ev ?_
     exact fin _ _ false (by exact Er) (by unfold risesX; rw [hr2, decide_eq_false he]; simp)
  ·refine Btf @hc ?_
   refine Rk ?_
   refine AWP.ret ?_
   refine Ev ?_
   refine fin _ _ false (by exact Er) ?_
   unfold risesX
   have : riseF none l = false := by
    rw [← Bool.not_eq_true]
    intro hT
    exact hc (riseF_mem hT p (by rw [← hp]; exact List.getElem_mem hi2))
   rw [this]; rfl
 ·refine Bff @hlt ?_
  refine AWP.exit ?_
  refine Ev ?_
  have hil : i = l.length := by omega
  refine Rkf (jn2 @e0 @e1) ?_
  refine AWP.ret ?_
  refine fin _ _ (decide ((l.length : Int) ≤ most)) (by exact Er) ?_
  unfold risesX
  rw [hr, hil, List.drop_length]
  have : ∀ q : Option S, riseF q [] = true := fun q => by cases q <;> rfl
  rw [this, Bool.true_and]
  exact decide_eq_decide.2 (by omega)
abbrev rB (rn rd : List S) : Blk := ⟨0, [.p (.sl 1 (rn.map encS)), .p (.sl 1 (rd.map encS))]⟩
theorem vMay_ok (rn rd : List S) (hn1 : rn.length ≤ 1000000) (hd1 : rd.length ≤ 1000000) (h : Heap) (b : Nat) : ACalls Tryz.prog 86 [ReadsV rn rd] h b 0 (fun r h' => r = IntV (mayX rn rd) ∧ h' = h) := by
 refine ACalls.enter Tryz.func86 rfl (by simp [Tryz.ntmps86]) (fun ι w hn H => ?_)
 have fin : ∀ (t : Nat → AV) (hh : Heap) (n : Nat) (v : Int), t 2 = IntV v → (∀ id, id < b → hh id = h id) → v = mayX rn rd → Am.Ends Tryz.prog ⟨Tryz.f86.ntmps, b, ι, h, w, x0⟩ Tryz.f86 0 (fun r h' => r = IntV (mayX rn rd) ∧ h' = h) ⟨t, hh, n⟩ := by
  intro t hh n v ht ho hv
  exact Ends.pure hn H ho (r0 := IntV v) (by rw [show Tryz.f86.results.toList = [.tmp 2] from rfl]; exact Ecf @ht) (.v _) ⟨by rw [hv], rfl⟩
 refine Rk ?_
 refine Rk ?_
 refine AWP.mid (fun st => st.n = 1 ∧ st.h b = some (rB rn rd) ∧ (∀ id, id < b → st.h id = h id) ∧ st.t 1 = .one (.ptr b 0 0) ∧ st.t 3 = ListV (dirsX rd)) ?_ ?_
 ·match rd with
  | [] =>
    have h0 : ¬ (0 : Int) < ((0 : Nat) : Int) := by decide
    refine Rkf @h0 ?_
    refine Bf ?_
    refine AWP.skip ?_
    refine Ev ?_
    exact ⟨rfl, Ou, by exact Er⟩
  | p :: ds =>
    have h0 : (0 : Int) < ((ds.length + 1 : Nat) : Int) := by omega
    have hge : ((p :: ds).map encS).getD 0 [] = [.v (.string (mkS p))] := rfl
    refine Rgf @h0 (fun E K hE hK => ?_)
    refine ⟨by decide, ?_⟩
    have hge : (encS p :: List.map encS ds).getD (Int.toNat 0) [] = [.v (.string (mkS p))] := rfl
    refine Evf (jn2 @hge @mkS_list) ?_
    refine hK _ _ _ ?_; clear hE hK K E
    by_cases hp : p = []
    ·subst hp
     refine Btf @toL0 ?_
     have hsl : List.take (ds.length + 1 - Int.toNat 1) (List.drop (Int.toNat 1) (encS [] :: List.map encS ds)) = List.map encS ds := by
      show List.take (ds.length + 1 - 1) (List.map encS ds) = _
      rw [Nat.add_sub_cancel, List.take_of_length_le (by simp)]
     refine Raf @hsl (fun E K hE hK => ?_)
     refine ⟨⟨by decide, by omega⟩, ?_⟩
     refine hK _ _ _ ?_; clear hE hK K E
     exact ⟨rfl, by exact Er, Ou, by exact Er, by exact Er⟩
    ·refine Bff (jn2 @hp @toL0) ?_
     have hdx : dirsX (p :: ds) = p :: ds := by
      cases p with
      | nil => exact absurd rfl hp
      | cons c p => rfl
     refine AWP.skip ⟨rfl, by exact Er, Ou, by exact Er, ?_⟩
     rw [hdx]
     exact Er
 ·rintro ⟨t, hh, n⟩ ⟨hn0, hb, ho, e1, e3⟩
  simp only at hn0 hb ho e1 e3
  subst hn0
  refine AWP.seq ?_
  by_cases c1 : (1024 : Int) < rd.length
  ·refine Rkf (jn3 @e1 @hb @c1) ?_
   refine Bt ?_
   refine Rk ?_
   refine AWP.ret ?_
   refine Ev ?_
   exact fin _ _ _ 1 (by exact Er) ho (by unfold mayX; rw [if_neg (fun e => by omega)])
  cases c2 : risesX rn 1024
  ·refine Rgf (jn3 @e1 @hb @c1) (fun E K hE hK => ?_)
   refine Us (rises_ok rn 1024 hn1 _ _) body_102 ?_
   refine Evf @c2 ?_
   refine hK _ _ _ ?_; clear hE hK K E
   refine Bt ?_
   refine Rk ?_
   refine AWP.ret ?_
   refine Ev ?_
   exact fin _ _ _ 1 (by exact Er) ho (by unfold mayX; rw [if_neg (fun e => by rw [c2] at e; exact absurd e.2.1 (by decide))])
  have hdl : (dirsX rd).length ≤ 1000000 := by
   match rd with
   | [] => simp [dirsX]
   | [] :: ds => simp [dirsX] at hd1 ⊢; omega
   | (_ :: _) :: ds => simpa [dirsX] using hd1
  cases c3 : risesX (dirsX rd) 1024
  ·refine Rgf (jn3 @e1 @hb @c1) (fun E K hE hK => ?_)
   refine Us (rises_ok rn 1024 hn1 _ _) body_102 ?_
   refine Evf (jn2 @c2 @e3) ?_
   refine Us (rises_ok (dirsX rd) 1024 hdl _ _) body_102 ?_
   refine Evf @c3 ?_
   refine hK _ _ _ ?_; clear hE hK K E
   refine Bt ?_
   refine Rk ?_
   refine AWP.ret ?_
   refine Ev ?_
   exact fin _ _ _ 1 (by exact Er) ho (by unfold mayX; rw [if_neg (fun e => by rw [c3] at e; exact absurd e.2.2 (by decide))])
  ·refine Rgf (jn3 @e1 @hb @c1) (fun E K hE hK => ?_)
   refine Us (rises_ok rn 1024 hn1 _ _) body_102 ?_
   refine Evf (jn2 @c2 @e3) ?_
   refine Us (rises_ok (dirsX rd) 1024 hdl _ _) body_102 ?_
   refine Evf @c3 ?_
   refine hK _ _ _ ?_; clear hE hK K E
   refine Bs ?_
   refine Rk ?_
   refine AWP.ret ?_
   exact fin _ _ _ 0 (by exact Er) ho (by unfold mayX; rw [if_pos ⟨by omega, c2, c3⟩])
def fewN (l : List S) : Bool := l.all (fun p => decide (p.length ≤ 200)) && decide (l.length ≤ 30)
def fewNI (l : List S) (h : Heap) (i : Nat) (st : St) : Prop :=
 st.h = h ∧ st.t 0 = ListV l ∧ st.t 5 = ListV l ∧ st.t 6 = IntV l.length ∧ st.t 7 = IntV (i : Nat) ∧ ∀ p ∈ l.take i, p.length ≤ 200
theorem fewNames_ok (l : List S) (hl : l.length ≤ 9223372036854775807) (h : Heap) (b : Nat) : ACalls Tryz.prog 56 [ListV l] h b 0 (fun r h' => r = BoolV (fewN l) ∧ h' = h) := by
 refine ACalls.enter Tryz.func56 rfl (by simp [Tryz.ntmps56]) (fun ι w hn H => ?_)
 have fin : ∀ (t : Nat → AV) (n : Nat) (v : Bool), t 2 = BoolV v → v = fewN l → Am.Ends Tryz.prog ⟨Tryz.f56.ntmps, b, ι, h, w, x0⟩ Tryz.f56 0 (fun r h' => r = BoolV (fewN l) ∧ h' = h) ⟨t, h, n⟩ := by
  intro t n v ht hv
  exact Ends.pure hn H (fun _ _ => rfl) (r0 := BoolV v) (by rw [show Tryz.f56.results.toList = [.tmp 2] from rfl]; exact Ecf @ht) (.v _) ⟨by rw [hv], rfl⟩
 refine Rk ?_
 refine AWP.seq ?_
 refine Rk ?_
 refine AWP.block ?_
 refine AWP.loopK 0 (fun m st => ∃ i, i ≤ l.length ∧ m = l.length - i ∧ fewNI l h i st) l.length rfl ⟨0, Nat.zero_le _, rfl, rfl, by exact Er, by exact Er, by exact Er, by exact Er, by simp⟩ ?_
 rintro m ⟨t, hh, n⟩ ⟨i, hi, rfl, rfl, e0, e5, e6, e7, hok⟩ hn1
 simp only at e0 e5 e6 e7 hn1
 subst hn1
 refine Rkf (jn2 @e6 @e7) ?_
 refine AWP.seq ?_
 by_cases hlt : (i : Int) < l.length
 ·have hw1 : IntKind.i64.wrap ((i : Int) + 1) = ((i + 1 : Nat) : Int) := by rw [wrap_i64 (by omega) (by omega)]; rfl
  refine Btf @hlt ?_
  refine AWP.skip ?_
  refine Ev ?_
  refine AWP.seq ?_
  refine AWP.block ?_
  have hi2 : i < l.length := by omega
  refine AWP.seqReg (by kernel_rfl) (fun E K hE hK => ?_); simp -implicitDefEqProofs only [go_sem, ↓reduceIte, Nat.reduceEqDiff, Nat.reduceAdd, Nat.reduceLT, Nat.reduceLeDiff, reduceCtorEq, Int.toNat_natCast, e5, e7, List.length_map, hlt, encS_getD l i hi2]
  refine ⟨by omega, ?_⟩
  refine hK _ _ _ ?_; clear hE hK K E
  refine Rk ?_
  by_cases c1 : (200 : Int) < l[i].length
  ·refine Btf (jn2 @mkS_size @c1) ?_
   refine Rk ?_
   refine AWP.ret ?_
   refine Ev ?_
   refine fin _ _ false (by exact Er) ?_
   symm
   unfold fewN
   rw [Bool.and_eq_false_iff]
   left
   rw [← Bool.not_eq_true]
   intro hall
   have := of_decide_eq_true (List.all_eq_true.1 hall l[i] (List.getElem_mem hi2))
   omega
  ·refine Bff (jn2 @mkS_size @c1) ?_
   refine AWP.skip ?_
   refine Ev ?_
   refine Raf (jn2 @e7 @hw1) (fun E K hE hK => ?_); refine hK _ _ _ ?_; clear hE hK K E
   refine ⟨rfl, l.length - (i + 1), by omega, i + 1, by omega, rfl, rfl, by exact Ecf @e0, by exact Ecf @e5, by exact Ecf @e6, by exact Er, ?_⟩
   intro p hp
   rw [List.take_add_one, List.getElem?_eq_getElem hi2] at hp
   rcases List.mem_append.1 hp with hp | hp
   ·exact hok p hp
   ·simp at hp; subst hp; omega
 ·refine Bff @hlt ?_
  refine AWP.exit ?_
  refine Ev ?_
  have hil : i = l.length := by omega
  subst hil
  rw [List.take_length] at hok
  refine Rkf @e0 ?_
  refine AWP.ret ?_
  refine fin _ _ (decide ((l.length : Int) ≤ 30)) (by exact Er) ?_
  unfold fewN
  rw [List.all_eq_true.2 (fun p hp => decide_eq_true (hok p hp)), Bool.true_and]
  exact decide_eq_decide.2 (by omega)
end Go.Proofs.YtihgnpboabpchaaGreatDoor
namespace Go.Proofs
set_option linter.unusedSimpArgs false
set_option linter.unusedVariables false
set_option linter.unnecessarySimpa false
open Go Go.RowKit
set_option maxRecDepth 100000
end Go.Proofs
namespace Go.Proofs.YtihgnpboabpchaaGreatDoor
set_option linter.unusedSimpArgs false
set_option linter.unusedVariables false
set_option linter.unnecessarySimpa false
open Go Am
set_option maxRecDepth 100000
theorem Am.ACalls.rowFrz {P : Program} {f : FuncId} {args : List AV} {h : Heap} {b sz : Nat} {es : List (List PD)} (c : ACalls P f args h b 1 (rowR sz es h b)) (ho : okEs sz es) : ACalls P f args h b 0 (fun r h' => r = .one (.p (.sl sz es)) ∧ h' = h) := by
 intro ι w vs hb hh ha
 refine (ACalls.freeze c ?_) ι w vs hb hh ha
 rintro r h' ⟨ver, cap, T, h1, h2, h3, rfl, rfl⟩
 refine ⟨_, .one (frz_row0 (Nat.le_refl _) (upd_same _ _ _) ho), ⟨rfl, ?_⟩, fun id hid blk e c hc => ?_⟩
 ·exact lowH_eq (fun id hid => by rw [upd_ne _ _ _ _ (by omega)]) hb
 ·rw [upd_ne _ _ _ _ (by omega)] at e
  exact hh.lowCells id blk e c hc
theorem same_cell {L : List Cell} {k : Nat} {c : Cell} (h : L[k]? = some c) : List.take k L ++ c :: List.drop (k + 1) L = L := by
 have hk := (List.getElem?_eq_some_iff.1 h)
 obtain ⟨hlt, he⟩ := hk
 rw [← he, ← List.drop_eq_getElem_cons hlt, List.take_append_drop]
theorem mayF_ok (f : Fl) (h : Heap) (b : Nat) : ACalls Tryz.prog 136 [FlV f] h b 0 (fun r h' => r = BoolV (mayF f) ∧ h' = h) := by
 refine ACalls.enter Tryz.func136 rfl (by simp [Tryz.ntmps136]) (fun ι w hn H => ?_)
 have fin : ∀ (t : Nat → AV) (hh : Heap) (n : Nat) (v : Bool), t 2 = BoolV v → (∀ id, id < b → hh id = h id) → v = mayF f → Am.Ends Tryz.prog ⟨Tryz.f136.ntmps, b, ι, h, w, x0⟩ Tryz.f136 0 (fun r h' => r = BoolV (mayF f) ∧ h' = h) ⟨t, hh, n⟩ := by
  intro t hh n v ht ho hv
  exact Ends.pure hn H ho (r0 := BoolV v) (by rw [show Tryz.f136.results.toList = [.tmp 2] from rfl]; exact Ecf @ht) (.v _) ⟨by rw [hv], rfl⟩
 refine Rk ?_
 by_cases c1 : 0 ≤ f.blk
 case neg =>
  refine Rkf @c1 ?_
  refine AWP.ret ?_
  exact fin _ _ _ false (by exact Er) Ou (by unfold mayF; simp [c1])
 by_cases c2 : f.blk ≤ 8192
 case neg =>
  refine Rkf (jn2 @c1 @c2) ?_
  refine AWP.ret ?_
  exact fin _ _ _ false (by exact Er) Ou (by unfold mayF; simp [c2])
 by_cases c3 : 0 ≤ f.frm
 case neg =>
  refine Rkf (jn3 @c1 @c2 @c3) ?_
  refine AWP.ret ?_
  exact fin _ _ _ false (by exact Er) Ou (by unfold mayF; simp [c3])
 by_cases c4 : f.frm ≤ 65536
 case neg =>
  refine Rkf (jn4 @c1 @c2 @c3 @c4) ?_
  refine AWP.ret ?_
  exact fin _ _ _ false (by exact Er) Ou (by unfold mayF; simp [c4])
 by_cases c5 : 0 ≤ f.len
 case neg =>
  refine Rkf (jn5 @c1 @c2 @c3 @c4 @c5) ?_
  refine AWP.ret ?_
  exact fin _ _ _ false (by exact Er) Ou (by unfold mayF; simp [c5])
 have hw : IntKind.i64.wrap (65536 - f.frm) = 65536 - f.frm := wrap_i64 (by omega) (by omega)
 by_cases c6 : f.len ≤ 65536 - f.frm
 case neg =>
  refine Rkf (jn7 @c1 @c2 @c3 @c4 @c5 @c6 @hw) ?_
  refine AWP.ret ?_
  exact fin _ _ _ false (by exact Er) Ou (by unfold mayF; simp [c6])
 refine Rgf (jn7 @c1 @c2 @c3 @c4 @c5 @c6 @hw) (fun E K hE hK => ?_)
 refine Us (Check_ok (mkS f.name) _ _) body_31 ?_
 refine Evf @mkS_list ?_
 refine hK _ _ _ ?_; clear hE hK K E
 refine AWP.ret ?_
 exact fin _ _ _ (decide (chkN f.name = 0)) (by exact Er) Ou (by unfold mayF; simp [c1, c2, c3, c4, c5, c6])
theorem order_ok (f : Fl) (p : S) (h : Heap) (b : Nat) : ACalls Tryz.prog 137 [FlV f, StrV p] h b 0 (fun r h' => r = IntV (cmpN f.name p).1 ∧ h' = h) := by
 refine ACalls.enter Tryz.func137 rfl (by simp [Tryz.ntmps137]) (fun ι w hn H => ?_)
 refine Rk ?_
 refine Rg (fun E K hE hK => ?_)
 refine Us (Cmp_ok (mkS f.name) (mkS p) _ _) body_119 ?_
 refine Evf @mkS_list ?_
 refine hK _ _ _ ?_; clear hE hK K E
 refine Rk ?_
 refine AWP.ret ?_
 exact Ends.pure hn H Ou (r0 := IntV (cmpN f.name p).1) (by rw [show Tryz.f137.results.toList = [.tmp 4] from rfl]; exact Er) (.v _) ⟨rfl, rfl⟩
def prevN (l : List Fl) (i : Nat) : Option S := if i = 0 then none else (l[i - 1]?).map Fl.name
def tCkI (l : List Fl) (h : Heap) (b i : Nat) (st : St) : Prop :=
 (∀ id, id < b → st.h id = h id) ∧ st.t 0 = FlsV l ∧ st.t 8 = FlsV l ∧ st.t 9 = IntV l.length ∧ st.t 10 = IntV (i : Nat) ∧ tabF none l = tabF (prevN l i) (l.drop i) ∧ ∀ f ∈ l.take i, mayF f = true
theorem tCheck_ok (l : List Fl) (hl : l.length ≤ 1000000) (h : Heap) (b : Nat) : ACalls Tryz.prog 85 [FlsV l] h b 0 (fun r h' => r = IntV (checkT l) ∧ h' = h) := by
 refine ACalls.enter Tryz.func85 rfl (by simp [Tryz.ntmps85]) (fun ι w hn H => ?_)
 have hlow := H.lowCells
 have hlm : (l.map encF).length = l.length := List.length_map _
 have fin : ∀ (t : Nat → AV) (hh : Heap) (n : Nat) (v : Int), t 2 = IntV v → (∀ id, id < b → hh id = h id) → v = checkT l → Am.Ends Tryz.prog ⟨Tryz.f85.ntmps, b, ι, h, w, x0⟩ Tryz.f85 0 (fun r h' => r = IntV (checkT l) ∧ h' = h) ⟨t, hh, n⟩ := by
  intro t hh n v ht ho hv
  exact Ends.pure hn H ho (r0 := IntV v) (by rw [show Tryz.f85.results.toList = [.tmp 2] from rfl]; exact Ecf @ht) (.v _) ⟨by rw [hv], rfl⟩
 refine Rk ?_
 refine AWP.seq ?_
 by_cases c0 : (256 : Int) < l.length
 ·refine Rkf (jn2 @hlm @c0) ?_
  refine Bt ?_
  refine Rk ?_
  refine AWP.ret ?_
  refine Ev ?_
  exact fin _ _ _ 1 (by exact Er) Ou (by unfold checkT; rw [if_pos (by omega)])
 have hcx : checkT l = if tabF none l = true then 0 else 1 := by unfold checkT; rw [if_neg (by omega)]
 refine Rkf (jn2 @hlm @c0) ?_
 refine Bs ?_
 refine AWP.seq ?_
 refine Rkf @hlm ?_
 refine AWP.block ?_
 refine AWP.loopM 0 (fun m st => ∃ i, i ≤ l.length ∧ m = l.length - i ∧ tCkI l h b i st) l.length rfl ⟨0, Nat.zero_le _, rfl, Ou, by exact Er, by exact Er, by exact Er, by exact Er, rfl, by simp⟩ ?_
 rintro m ⟨t, hh, n⟩ ⟨i, hi, rfl, ho, e0, e8, e9, e10, hc, hmay⟩ hn1
 simp only at ho e0 e8 e9 e10 hn1
 subst hn1
 refine Rkf (jn2 @e9 @e10) ?_
 refine AWP.seq ?_
 by_cases hlt : (i : Int) < l.length
 ·have hw1 : IntKind.i64.wrap ((i : Int) + 1) = ((i + 1 : Nat) : Int) := by rw [wrap_i64 (by omega) (by omega)]; rfl
  have hi2 : i < l.length := by omega
  have hge := encF_getD l i hi2
  obtain ⟨f, hf⟩ : ∃ f, l[i] = f := ⟨_, rfl⟩
  have hdr : l.drop i = f :: l.drop (i + 1) := by rw [List.drop_eq_getElem_cons hi2, hf]
  have hpn : prevN l (i + 1) = some f.name := by unfold prevN; rw [if_neg (by omega), Nat.add_sub_cancel, List.getElem?_eq_getElem hi2, hf]; rfl
  rw [hf] at hge
  have hc2 : tabF none l = (mayF f && (aheadF (prevN l i) f.name && tabF (some f.name) (l.drop (i + 1)))) := by rw [hc, hdr]; rfl
  have hnext : mayF f = true → aheadF (prevN l i) f.name = true → tabF none l = tabF (prevN l (i + 1)) (l.drop (i + 1)) := by
   intro g1 g2; rw [hc2, g1, g2, hpn]; rfl
  have hmay2 : mayF f = true → ∀ x ∈ l.take (i + 1), mayF x = true := by
   intro g x hx
   rw [List.take_add_one, List.getElem?_eq_getElem hi2, hf] at hx
   rcases List.mem_append.1 hx with hx | hx
   ·exact hmay x hx
   ·simp at hx; subst hx; exact g
  have bad : tabF none l = false → 1 = checkT l := fun e => by rw [hcx, e]; rfl
  refine Btf @hlt ?_
  refine AWP.skip ?_
  refine Ev ?_
  refine AWP.seq ?_
  refine AWP.block ?_
  refine Rgf (jn5 @e8 @e10 @hlm @hlt @hge) (fun E K hE hK => ?_)
  refine ⟨by omega, ?_⟩
  refine hK _ _ _ ?_; clear hE hK K E
  cases c1 : mayF f
  ·refine AWP.seqRegDG [] [] [] mixed (drawF_ok (by kernel_rfl)) (by kernel_rfl) (fun K hK => ?_); simp -implicitDefEqProofs only [go_sem, ↓reduceIte, Nat.reduceEqDiff, Nat.reduceAdd, Nat.reduceLT, Nat.reduceLeDiff, reduceCtorEq, Int.toNat_natCast, decide_true]
   refine Ud (mayF_ok f _ _) body_136 ?_
   try (refine Evf @c1 ?_)
   repeat (first | (refine Gd 18 ?_) | (refine Gd 21 ?_) | (refine ⟨by omega, ?_⟩))
   refine hK _ _ _ ?_; clear hK K
   refine Bt ?_
   refine Rk ?_
   refine AWP.ret ?_
   refine Ev ?_
   exact fin _ _ _ 1 (by exact Er) (Ouf @ho) (bad (by rw [hc2, c1]; rfl))
  by_cases h0 : i = 0
  ·have h0' : ¬ (0 : Int) < i := by omega
   refine AWP.seqRegDG [] [] [] mixed (drawF_ok (by kernel_rfl)) (by kernel_rfl) (fun K hK => ?_); simp -implicitDefEqProofs only [go_sem, ↓reduceIte, Nat.reduceEqDiff, Nat.reduceAdd, Nat.reduceLT, Nat.reduceLeDiff, reduceCtorEq, Int.toNat_natCast, h0']
   refine Ud (mayF_ok f _ _) body_136 ?_
   try (refine Evf @c1 ?_)
   repeat (first | (refine Gdf 18 @h0' ?_) | (refine Gdf 21 @h0' ?_) | (refine ⟨by omega, ?_⟩))
   refine hK _ _ _ ?_; clear hK K
   refine Bf ?_
   refine AWP.skip ?_
   refine Ev ?_
   refine Raf (jn2 @e10 @hw1) (fun E K hE hK => ?_); refine hK _ _ _ ?_; clear hE hK K E
   exact ⟨l.length - (i + 1), by omega, i + 1, by omega, rfl, cutH_outer (Nat.le_refl _) (Ouf @ho) hlow, by exact Ecf @e0, by exact Ecf @e8, by exact Ecf @e9, by exact Er, hnext c1 (by unfold prevN; rw [if_pos h0]; rfl), hmay2 c1⟩
  have h0' : (0 : Int) < i := by omega
  have hi3 : i - 1 < l.length := by omega
  have hge2 := encF_getD l (i - 1) hi3
  have hwm : IntKind.i64.wrap ((i : Int) - 1) = ((i - 1 : Nat) : Int) := by rw [wrap_i64 (by omega) (by omega)]; omega
  have hlt2 : ((i - 1 : Nat) : Int) < l.length := by omega
  obtain ⟨g, hg⟩ : ∃ g, l[i - 1] = g := ⟨_, rfl⟩
  have hpi : prevN l i = some g.name := by unfold prevN; rw [if_neg h0, List.getElem?_eq_getElem hi3, hg]; rfl
  rw [hg] at hge2
  have hgm : mayF g = true := hmay g (by
   have : l[i - 1]? = (l.take i)[i - 1]? := by rw [List.getElem?_take, if_pos (by omega)]
   rw [List.getElem?_eq_getElem hi3, hg] at this
   exact List.mem_of_getElem? this.symm)
  have hcm : (cmpN g.name f.name).1 = cK g.name f.name := by rw [cmpN_ok (chkN_zero.1 (mayF_chk hgm)) (chkN_zero.1 (mayF_chk c1))]
  by_cases c3 : 0 ≤ cK g.name f.name
  ·refine AWP.seqRegDG [] [] [] mixed (drawF_ok (by kernel_rfl)) (by kernel_rfl) (fun K hK => ?_); simp -implicitDefEqProofs only [go_sem, ↓reduceIte, Nat.reduceEqDiff, Nat.reduceAdd, Nat.reduceLT, Nat.reduceLeDiff, reduceCtorEq, Int.toNat_natCast, h0', e0, hwm, hlm, hlt2, hge2]
   refine Ud (mayF_ok f _ _) body_136 ?_
   try (refine Evf @c1 ?_)
   repeat (first | (refine Gdf 18 (jn6 @h0' @e0 @hwm @hlm @hlt2 @hge2) ?_) | (refine Gdf 21 (jn6 @h0' @e0 @hwm @hlm @hlt2 @hge2) ?_) | (refine ⟨by omega, ?_⟩))
   refine Ud (order_ok g f.name _ _) body_137 ?_
   try (refine Evf (jn2 @hcm @c3) ?_)
   repeat (first | (refine Gdf 18 (jn7 @h0' @e0 @hwm @hlm @hlt2 @hge2 @c3) ?_) | (refine Gdf 21 (jn7 @h0' @e0 @hwm @hlm @hlt2 @hge2 @c3) ?_) | (refine ⟨by omega, ?_⟩))
   refine hK _ _ _ ?_; clear hK K
   refine Bt ?_
   refine Rk ?_
   refine AWP.ret ?_
   refine Ev ?_
   exact fin _ _ _ 1 (by exact Er) (Ouf @ho) (bad (by rw [hc2, hpi]; show (mayF f && (decide (cK g.name f.name < 0) && _)) = false; rw [decide_eq_false (show ¬ cK g.name f.name < 0 by omega)]; simp))
  ·refine AWP.seqRegDG [] [] [] mixed (drawF_ok (by kernel_rfl)) (by kernel_rfl) (fun K hK => ?_); simp -implicitDefEqProofs only [go_sem, ↓reduceIte, Nat.reduceEqDiff, Nat.reduceAdd, Nat.reduceLT, Nat.reduceLeDiff, reduceCtorEq, Int.toNat_natCast, h0', e0, hwm, hlm, hlt2, hge2]
   refine Ud (mayF_ok f _ _) body_136 ?_
   try (refine Evf @c1 ?_)
   repeat (first | (refine Gdf 18 (jn6 @h0' @e0 @hwm @hlm @hlt2 @hge2) ?_) | (refine Gdf 21 (jn6 @h0' @e0 @hwm @hlm @hlt2 @hge2) ?_) | (refine ⟨by omega, ?_⟩))
   refine Ud (order_ok g f.name _ _) body_137 ?_
   try (refine Evf (jn2 @hcm @c3) ?_)
   repeat (first | (refine Gdf 18 (jn7 @h0' @e0 @hwm @hlm @hlt2 @hge2 @c3) ?_) | (refine Gdf 21 (jn7 @h0' @e0 @hwm @hlm @hlt2 @hge2 @c3) ?_) | (refine ⟨by omega, ?_⟩))
   refine hK _ _ _ ?_; clear hK K
   refine Bf ?_
   refine AWP.skip ?_
   refine Ev ?_
   refine Raf (jn2 @e10 @hw1) (fun E K hE hK => ?_); refine hK _ _ _ ?_; clear hE hK K E
   exact ⟨l.length - (i + 1), by omega, i + 1, by omega, rfl, cutH_outer (Nat.le_refl _) (Ouf @ho) hlow, by exact Ecf @e0, by exact Ecf @e8, by exact Ecf @e9, by exact Er, hnext c1 (by rw [hpi]; unfold aheadF; simp only [decide_eq_true_eq]; omega), hmay2 c1⟩
 ·refine Bff @hlt ?_
  refine AWP.exit ?_
  refine Ev ?_
  refine Rk ?_
  refine AWP.ret ?_
  refine fin _ _ _ 0 (by exact Er) ho ?_
  have : i = l.length := by omega
  subst this
  rw [hcx, hc, List.drop_length]
  cases prevN l l.length <;> rfl
def bsI (l : List Fl) (p : S) (h : Heap) (i j : Nat) (st : St) : Prop :=
 st.h = h ∧ st.t 0 = FlsV l ∧ st.t 1 = StrV p ∧ st.t 2 = .one (.clo (.func 137) [] []) ∧ st.t 8 = IntV l.length ∧ st.t 9 = IntV (i : Nat) ∧ st.t 10 = IntV (j : Nat)
theorem bsearch_ok (l : List Fl) (p : S) (hl : l.length ≤ 1000000) (ht : checkT l = 0) (hp : chkN p = 0) (h : Heap) (b : Nat) :
  ACalls Tryz.prog 195 [FlsV l, StrV p, .one (.clo (.func 137) [] [])] h b 0 (fun r h' => r = .tup [IntV (kL p l), BoolV (hasL p l)] ∧ h' = h) := by
 refine ACalls.enter Tryz.func195 rfl (by simp [Tryz.ntmps195]) (fun ι w hn H => ?_)
 have hlm : (l.map encF).length = l.length := List.length_map _
 have htab := (checkT_zero.1 ht).2
 have hkl := kL_le p l
 have hcmp : ∀ f ∈ l, (cmpN f.name p).1 = cK f.name p := fun f hf => by rw [cmpN_ok (chkN_zero.1 (mayF_chk (tabF_may htab f hf))) (chkN_zero.1 hp)]
 refine Rk ?_
 refine Rkf @hlm ?_
 refine Rkf @hlm ?_
 refine AWP.seq ?_
 refine AWP.block ?_
 refine AWP.loopK 0 (fun m st => ∃ i j, i ≤ kL p l ∧ kL p l ≤ j ∧ j ≤ l.length ∧ m = j - i ∧ bsI l p h i j st) l.length rfl ⟨0, l.length, Nat.zero_le _, hkl, Nat.le_refl _, rfl, rfl, by exact Er, by exact Er, by exact Er, by exact Er, by exact Er, by exact Er⟩ ?_
 rintro m ⟨t, hh, n⟩ ⟨i, j, hik, hkj, hj, rfl, rfl, e0, e1, e2, e8, e9, e10⟩ hn1
 simp only at e0 e1 e2 e8 e9 e10 hn1
 subst hn1
 refine AWP.seq ?_
 refine Rkf (jn2 @e9 @e10) ?_
 by_cases hlt : (i : Int) < j
 ·refine Btf @hlt ?_
  refine AWP.skip ?_
  refine Ev ?_
  refine AWP.block ?_
  obtain ⟨c, hc⟩ : ∃ c, (i + j) / 2 = c := ⟨_, rfl⟩
  have hci : i ≤ c ∧ c < j := by omega
  have hsum : IntKind.i64.wrap ((i : Int) + j) = ((i + j : Nat) : Int) := by rw [wrap_i64 (by omega) (by omega)]; omega
  have hu : IntKind.u64.wrap ((i + j : Nat) : Int) = ((i + j : Nat) : Int) := IntWalk.u64_in _ ⟨by omega, by omega⟩
  have h10 : ¬ (1 : Int) < 0 := by decide
  have hfd : Int.fdiv ((i + j : Nat) : Int) (2 ^ min (Int.toNat 1) 64) = (c : Int) := by
   rw [← hc, show ((2 : Int) ^ min (Int.toNat 1) 64) = 2 from rfl, Int.fdiv_eq_ediv_of_nonneg _ (by decide)]; omega
  have hback : IntKind.i64.wrap (c : Int) = (c : Int) := wrap_i64 (by omega) (by omega)
  have hcl : c < l.length := by omega
  have hge := encF_getD l c hcl
  obtain ⟨f, hf⟩ : ∃ f, l[c] = f := ⟨_, rfl⟩
  rw [hf] at hge
  have hfm : f ∈ l := by rw [← hf]; exact List.getElem_mem hcl
  have hcm := hcmp f hfm
  have hlt3 : (c : Int) < l.length := by omega
  have hw1 : IntKind.i64.wrap ((c : Int) + 1) = ((c + 1 : Nat) : Int) := by rw [wrap_i64 (by omega) (by omega)]; rfl
  refine Rkf (jn7 @e9 @e10 @hsum @hu @h10 @hfd @hback) ?_
  refine Rgf (jn6 @e0 @e1 @e2 @hlm @hlt3 @hge) (fun E K hE hK => ?_)
  refine ⟨by omega, ?_⟩
  refine Us (order_ok f p _ _) body_137 ?_
  refine Evf @hcm ?_
  refine hK _ _ _ ?_; clear hE hK K E
  by_cases hneg : cK f.name p < 0
  ·have hk : c < kL p l := by
    by_cases q : c < kL p l
    ·exact q
    ·exact absurd (by rw [hf]; exact hneg) (kL_hi (q := none) hcl htab (by omega))
   refine Btf @hneg ?_
   refine Raf @hw1 (fun E K hE hK => ?_); refine hK _ _ _ ?_; clear hE hK K E
   exact ⟨rfl, j - (c + 1), by omega, c + 1, j, by omega, by omega, by omega, rfl, rfl, by exact Ecf @e0, by exact Ecf @e1, by exact Ecf @e2, by exact Ecf @e8, by exact Er, by exact Ecf @e10⟩
  ·have hk : kL p l ≤ c := by
    by_cases q : kL p l ≤ c
    ·exact q
    ·exact absurd (by have := kL_lo (p := p) hcl (by omega); rw [hf] at this; exact this) hneg
   refine Bff @hneg ?_
   refine Ra (fun E K hE hK => ?_); refine hK _ _ _ ?_; clear hE hK K E
   exact ⟨rfl, c - i, by omega, i, c, by omega, by omega, by omega, rfl, rfl, by exact Ecf @e0, by exact Ecf @e1, by exact Ecf @e2, by exact Ecf @e8, by exact Ecf @e9, by exact Er⟩
 ·refine Bff @hlt ?_
  refine AWP.exit ?_
  refine Ev ?_
  have hij : i = kL p l := by omega
  subst hij
  have hfin : ∀ (t : Nat → AV) (n : Nat), t 6 = IntV (kL p l) → t 7 = BoolV (hasL p l) → Am.Ends Tryz.prog ⟨Tryz.f195.ntmps, b, ι, hh, w, x0⟩ Tryz.f195 0 (fun r h' => r = .tup [IntV (kL p l), BoolV (hasL p l)] ∧ h' = hh) ⟨t, hh, n⟩ := by
   intro t n g6 g7
   exact Ends.pure hn H (fun _ _ => rfl) (r0 := .tup [IntV (kL p l), BoolV (hasL p l)]) (by rw [show Tryz.f195.results.toList = [.tmp 6, .tmp 7] from rfl]; exact Ecf (jn2 @g6 @g7)) (frz_tup2 (.v _) (.v _)) ⟨rfl, rfl⟩
  by_cases hkn : ((kL p l : Nat) : Int) < l.length
  ·have hk2 : kL p l < l.length := by omega
   have hge := encF_getD l (kL p l) hk2
   have hhas := hasL_k (p := p) (l := l)
   obtain ⟨f, hf⟩ : ∃ f, l[kL p l] = f := ⟨_, rfl⟩
   rw [hf] at hge
   have hfm : f ∈ l := by rw [← hf]; exact List.getElem_mem hk2
   have hcm := hcmp f hfm
   have hd : hasL p l = decide (cK f.name p = 0) := by
    rw [Bool.eq_iff_iff, hhas, decide_eq_true_eq]
    exact ⟨fun ⟨_, e⟩ => by rw [← hf]; exact e, fun e => ⟨hk2, by rw [hf]; exact e⟩⟩
   refine Rgf (jn2 @e0 (jn7 @e1 @e2 @e8 @e9 @hlm @hkn @hge)) (fun E K hE hK => ?_)
   refine ⟨by omega, ?_⟩
   refine Us (order_ok f p _ _) body_137 ?_
   refine Evf @hcm ?_
   refine hK _ _ _ ?_; clear hE hK K E
   refine AWP.ret ?_
   exact hfin _ _ (by exact Er) (by rw [hd]; exact Er)
  ·have hd : hasL p l = false := by
    rw [← Bool.not_eq_true, hasL_k]
    rintro ⟨h1, _⟩; omega
   refine Rkf (jn7 @e0 @e1 @e2 @e8 @e9 @hlm @hkn) ?_
   refine AWP.ret ?_
   exact hfin _ _ (by exact Er) (by rw [hd]; exact Er)
def findR (l : List Fl) (p : S) : Nat × Bool × Int := if checkT l ≠ 0 ∨ chkN p ≠ 0 then (0, false, 1) else (kL p l, hasL p l, 0)
theorem find_ok (l : List Fl) (p : S) (hl : l.length ≤ 1000000) (h : Heap) (b : Nat) :
  ACalls Tryz.prog 155 [FlsV l, StrV p] h b 0 (fun r h' => r = .tup [IntV (findR l p).1, BoolV (findR l p).2.1, IntV (findR l p).2.2] ∧ h' = h) := by
 refine ACalls.enter Tryz.func155 rfl (by simp [Tryz.ntmps155]) (fun ι w hn H => ?_)
 have fin : ∀ (t : Nat → AV) (n : Nat) (v : Nat × Bool × Int), t 4 = IntV v.1 → t 5 = BoolV v.2.1 → t 6 = IntV v.2.2 → v = findR l p → Am.Ends Tryz.prog ⟨Tryz.f155.ntmps, b, ι, h, w, x0⟩ Tryz.f155 0 (fun r h' => r = .tup [IntV (findR l p).1, BoolV (findR l p).2.1, IntV (findR l p).2.2] ∧ h' = h) ⟨t, h, n⟩ := by
  intro t n v g4 g5 g6 hv
  exact Ends.pure hn H (fun _ _ => rfl) (r0 := .tup [IntV v.1, BoolV v.2.1, IntV v.2.2]) (by rw [show Tryz.f155.results.toList = [.tmp 4, .tmp 5, .tmp 6] from rfl]; exact Ecf (jn3 @g4 @g5 @g6)) (frz_tup3 (.v _) (.v _) (.v _)) ⟨by rw [hv], rfl⟩
 refine Rk ?_
 refine AWP.seq ?_
 by_cases c1 : checkT l = 0
 case neg =>
  refine Rg (fun E K hE hK => ?_)
  refine Us (tCheck_ok l hl _ _) body_85 ?_
  refine Evf @c1 ?_
  refine hK _ _ _ ?_; clear hE hK K E
  refine Bt ?_
  refine Rk ?_
  refine AWP.ret ?_
  refine Ev ?_
  exact fin _ _ (0, false, 1) (by exact Er) (by exact Er) (by exact Er) (by unfold findR; rw [if_pos (.inl c1)])
 by_cases c2 : chkN p = 0
 case neg =>
  refine Rg (fun E K hE hK => ?_)
  refine Us (tCheck_ok l hl _ _) body_85 ?_
  refine Evf @c1 ?_
  refine Us (Check_ok (mkS p) _ _) body_31 ?_
  refine Evf (jn2 @mkS_list @c2) ?_
  refine hK _ _ _ ?_; clear hE hK K E
  refine Bt ?_
  refine Rk ?_
  refine AWP.ret ?_
  refine Ev ?_
  exact fin _ _ (0, false, 1) (by exact Er) (by exact Er) (by exact Er) (by unfold findR; rw [if_pos (.inr c2)])
 refine Rg (fun E K hE hK => ?_)
 refine Us (tCheck_ok l hl _ _) body_85 ?_
 refine Evf @c1 ?_
 refine Us (Check_ok (mkS p) _ _) body_31 ?_
 refine Evf (jn2 @mkS_list @c2) ?_
 refine hK _ _ _ ?_; clear hE hK K E
 refine Bs ?_
 cases hhas : hasL p l
 all_goals
  refine Rg (fun E K hE hK => ?_)
  refine Us (bsearch_ok l p hl c1 c2 _ _) body_195 ?_
  refine Evf @hhas ?_
  refine hK _ _ _ ?_; clear hE hK K E
  refine Rk ?_
  refine AWP.ret ?_
  exact fin _ _ (kL p l, hasL p l, 0) (by exact Er) (by rw [hhas]; exact Er) (by exact Er) (by unfold findR; rw [if_neg (by simp [c1, c2])])
theorem clone_fl_ok (es : List (List PD)) (ho : okEs 6 es) (h : Heap) (b : Nat) (hl : es.length ≤ 1000000000) :
  ACalls Tryz.prog 78 [.one (.p (.sl 6 es))] h b 1 (rowR 6 es h b) := by
 refine ACalls.enter Tryz.func78 rfl (by simp [Tryz.ntmps78]) (fun ι w hn H => ?_)
 refine Rk ?_
 refine AWP.seq ?_
 refine Rg (fun E K hE hK => ?_)
 refine EqlR.nil_sl rfl (.inl rfl) (fun g hg => ?_)
 refine Ev ?_
 refine hK _ _ _ ?_; clear hE hK K E
 cases g
 ·refine AWP.ifF (by exact Ec) ?_
  refine AWP.skip ?_
  refine Ev ?_
  refine Rg (fun E K hE hK => ?_)
  refine BiR.of ?_
  refine BiK.append_own (e := 82) (sz := 6) (bytes := 56) (m := es.length) (xs := es.flatten.map .p) ty_slE_60 ty_tsz_82 ty_tzero_82 rfl ty_tby_82 ty_isIntT_60 (upd_same _ _ _) rfl rfl (by simp [srcA]) (okEs_flat ho _) (by omega) (by decide) (by omega) (fun cap k h1 h2 => ?_)
  refine Ev ?_
  refine hK _ _ _ ?_; clear hE hK K E
  refine AWP.ret ?_
  refine Ev ?_
  refine Ends.row (id := b) (blk := ⟨1, es.flatten.map .p ++ List.replicate k .junk⟩) hn H (lowEq_upd (Nat.le_refl _) (fun _ _ => rfl)) (Nat.le_refl _) (upd_same _ _ _) (lowCs_app (lowCs_p _ _) (lowCs_junk _ _))
   (by rw [show Tryz.f78.results.toList = [.tmp 2] from rfl]; exact Ec) (renV.win0 _ _ _ _) ⟨1, cap, List.replicate k .junk, by omega, by rw [List.length_replicate]; omega, lowCs_junk _ _, rfl, rfl⟩
 ·have he := hg rfl
  subst he
  refine AWP.ifT (by exact Ec) ?_
  refine Rk ?_
  refine AWP.virt 2 (by exact Ec) ?_
  refine AWP.ret ?_
  refine Ev ?_
  refine Ends.row (id := b) (blk := ⟨0, []⟩) hn H (lowEq_upd (Nat.le_refl _) (fun _ _ => rfl)) (Nat.le_refl _) (upd_same _ _ _) rfl
   (by rw [show Tryz.f78.results.toList = [.tmp 2] from rfl]; exact Ec) (renV.win0 _ _ _ _) ⟨0, 0, [], Nat.le_refl _, rfl, rfl, rfl, rfl⟩
def zeroF : Fl := ⟨[], 0, 0, 0, 0, 0⟩
def getR (l : List Fl) (p : S) : Fl × Int := if checkT l ≠ 0 ∨ chkN p ≠ 0 then (zeroF, 1) else if hasL p l = true then (l.getD (kL p l) zeroF, 0) else (zeroF, 4)
theorem Get_ok (l : List Fl) (p : S) (hl : l.length ≤ 1000000) (h : Heap) (b : Nat) :
  ACalls Tryz.prog 112 [FlsV l, StrV p] h b 0 (fun r h' => r = .tup [FlV (getR l p).1, IntV (getR l p).2] ∧ h' = h) := by
 refine ACalls.enter Tryz.func112 rfl (by simp [Tryz.ntmps112]) (fun ι w hn H => ?_)
 have hlm : (l.map encF).length = l.length := List.length_map _
 have hz : (ByteArray.empty : ByteArray) = mkS [] := rfl
 have frzF : ∀ (hh : Heap) (f : Fl), frzV hh b (FlV f) (FlV f) := fun hh f => .agg rfl (by
  intro i c d hc hd
  have : c = d := Option.some.inj (hc.symm.trans hd)
  subst this
  obtain ⟨x, _, rfl⟩ := List.mem_map.1 (List.mem_of_getElem? hc)
  exact .inl ⟨rfl, rfl⟩)
 have fin : ∀ (t : Nat → AV) (hh : Heap) (n : Nat) (v : Fl × Int), t 4 = .one (.ptr b 0 0) → hh b = some ⟨0, (encF v.1).map .p⟩ → t 5 = IntV v.2 → (∀ id, id < b → hh id = h id) → v = getR l p → Am.Ends Tryz.prog ⟨Tryz.f112.ntmps, b, ι, h, w, x0⟩ Tryz.f112 0 (fun r h' => r = .tup [FlV (getR l p).1, IntV (getR l p).2] ∧ h' = h) ⟨t, hh, n⟩ := by
  intro t hh n v ht hb ht2 ho hv
  exact Ends.pure hn H ho (r0 := .tup [FlV v.1, IntV v.2]) (by rw [show Tryz.f112.results.toList = [.cell 4 82, .tmp 5] from rfl]; (first | (simp -implicitDefEqProofs only [go_sem, ↓reduceIte, Nat.reduceEqDiff, Nat.reduceAdd, Nat.reduceLT, Nat.reduceLeDiff, reduceCtorEq, Int.toNat_natCast, ht, hb, ht2, encF]; first | done | rfl) | rfl)) (frz_tup2 (frzF _ _) (.v _)) ⟨by rw [hv], rfl⟩
 refine Rk ?_
 by_cases hbad : checkT l ≠ 0 ∨ chkN p ≠ 0
 ·have hfr : findR l p = (0, false, 1) := by unfold findR; rw [if_pos hbad]
  refine Rg (fun E K hE hK => ?_)
  refine Us (find_ok l p hl _ _) body_155 ?_
  refine Evf @hfr ?_
  refine hK _ _ _ ?_; clear hE hK K E
  refine AWP.seq ?_
  refine AWP.block ?_
  refine Rk ?_
  refine Bt ?_
  refine Rk ?_
  refine AWP.ret ?_
  refine Ev ?_
  exact fin _ _ _ (zeroF, 1) (by exact Er) (by exact Er) (by exact Er) Ou (by unfold getR; rw [if_pos hbad])
 have hfr : findR l p = (kL p l, hasL p l, 0) := by unfold findR; rw [if_neg hbad]
 cases hhas : hasL p l
 ·refine Rg (fun E K hE hK => ?_)
  refine Us (find_ok l p hl _ _) body_155 ?_
  refine Evf (jn2 @hfr @hhas) ?_
  refine hK _ _ _ ?_; clear hE hK K E
  refine AWP.seq ?_
  refine AWP.block ?_
  refine Rk ?_
  refine Bf ?_
  refine Rk ?_
  refine Bt ?_
  refine Rk ?_
  refine AWP.ret ?_
  refine Ev ?_
  exact fin _ _ _ (zeroF, 4) (by exact Er) (by exact Er) (by exact Er) Ou (by unfold getR; rw [if_neg hbad, if_neg (by simp [hhas])])
 ·obtain ⟨hk, hk2⟩ := hasL_k.1 hhas
  have hkn : ((kL p l : Nat) : Int) < l.length := by omega
  have hge := encF_getD l (kL p l) hk
  have hgd : l.getD (kL p l) zeroF = l[kL p l] := by simp [List.getD, hk]
  refine Rg (fun E K hE hK => ?_)
  refine Us (find_ok l p hl _ _) body_155 ?_
  refine Evf (jn2 @hfr @hhas) ?_
  refine hK _ _ _ ?_; clear hE hK K E
  refine AWP.seq ?_
  refine AWP.block ?_
  refine Rk ?_
  refine Bf ?_
  refine Rk ?_
  refine Bf ?_
  refine AWP.skip ?_
  refine Ev ?_
  refine Rgf (jn3 @hlm @hkn @hge) (fun E K hE hK => ?_)
  refine ⟨by omega, ?_⟩
  refine hK _ _ _ ?_; clear hE hK K E
  refine AWP.ret ?_
  exact fin _ _ _ (l[kL p l], 0) (by exact Er) (by exact Er) (by exact Er) Ou (by unfold getR; rw [if_neg hbad, if_pos hhas, hgd])
def fewT (l : List Fl) : Bool := l.all (fun f => decide (f.name.length ≤ 200)) && (decide (l.length ≤ 30) || (decide (256 ≤ l.length) && decide (l.length ≤ 258)))
def fewTI (l : List Fl) (h : Heap) (b i : Nat) (st : St) : Prop :=
 (∀ id, id < b → st.h id = h id) ∧ st.t 0 = FlsV l ∧ st.t 5 = FlsV l ∧ st.t 6 = IntV l.length ∧ st.t 7 = IntV (i : Nat) ∧ ∀ f ∈ l.take i, f.name.length ≤ 200
theorem fewT_ok (l : List Fl) (hl : l.length ≤ 9223372036854775807) (h : Heap) (b : Nat) : ACalls Tryz.prog 55 [FlsV l] h b 0 (fun r h' => r = BoolV (fewT l) ∧ h' = h) := by
 refine ACalls.enter Tryz.func55 rfl (by simp [Tryz.ntmps55]) (fun ι w hn H => ?_)
 have hlow := H.lowCells
 have hlm : (l.map encF).length = l.length := List.length_map _
 have fin : ∀ (t : Nat → AV) (hh : Heap) (n : Nat) (v : Bool), t 2 = BoolV v → (∀ id, id < b → hh id = h id) → v = fewT l → Am.Ends Tryz.prog ⟨Tryz.f55.ntmps, b, ι, h, w, x0⟩ Tryz.f55 0 (fun r h' => r = BoolV (fewT l) ∧ h' = h) ⟨t, hh, n⟩ := by
  intro t hh n v ht ho hv
  exact Ends.pure hn H ho (r0 := BoolV v) (by rw [show Tryz.f55.results.toList = [.tmp 2] from rfl]; exact Ecf @ht) (.v _) ⟨by rw [hv], rfl⟩
 refine Rk ?_
 refine AWP.seq ?_
 refine Rkf @hlm ?_
 refine AWP.block ?_
 refine AWP.loopM 0 (fun m st => ∃ i, i ≤ l.length ∧ m = l.length - i ∧ fewTI l h b i st) l.length rfl ⟨0, Nat.zero_le _, rfl, Ou, by exact Er, by exact Er, by exact Er, by exact Er, by simp⟩ ?_
 rintro m ⟨t, hh, n⟩ ⟨i, hi, rfl, ho, e0, e5, e6, e7, hok⟩ hn1
 simp only at ho e0 e5 e6 e7 hn1
 subst hn1
 refine Rkf (jn2 @e6 @e7) ?_
 refine AWP.seq ?_
 by_cases hlt : (i : Int) < l.length
 ·have hw1 : IntKind.i64.wrap ((i : Int) + 1) = ((i + 1 : Nat) : Int) := by rw [wrap_i64 (by omega) (by omega)]; rfl
  have hi2 : i < l.length := by omega
  have hge := encF_getD l i hi2
  obtain ⟨f, hf⟩ : ∃ f, l[i] = f := ⟨_, rfl⟩
  have hfm : f ∈ l := by rw [← hf]; exact List.getElem_mem hi2
  rw [hf] at hge
  have hsz := mkS_size f.name
  refine Btf @hlt ?_
  refine AWP.skip ?_
  refine Ev ?_
  refine AWP.seq ?_
  refine AWP.block ?_
  refine Rgf (jn5 @e5 @e7 @hlm @hlt @hge) (fun E K hE hK => ?_)
  refine ⟨by omega, ?_⟩
  refine hK _ _ _ ?_; clear hE hK K E
  by_cases c1 : (200 : Int) < f.name.length
  ·refine Rkf (jn2 @hsz @c1) ?_
   refine Bt ?_
   refine Rk ?_
   refine AWP.ret ?_
   refine Ev ?_
   refine fin _ _ _ false (by exact Er) (Ouf @ho) ?_
   symm
   unfold fewT
   rw [Bool.and_eq_false_iff]
   left
   rw [← Bool.not_eq_true, List.all_eq_true]
   intro hall
   have := hall f hfm
   simp only [decide_eq_true_eq] at this
   omega
  ·refine Rkf (jn2 @hsz @c1) ?_
   refine Bf ?_
   refine AWP.skip ?_
   refine Ev ?_
   refine Raf (jn2 @e7 @hw1) (fun E K hE hK => ?_); refine hK _ _ _ ?_; clear hE hK K E
   exact ⟨l.length - (i + 1), by omega, i + 1, by omega, rfl, cutH_outer (Nat.le_refl _) (Ouf @ho) hlow, by exact Ecf @e0, by exact Ecf @e5, by exact Ecf @e6, by exact Er, fun x hx => by
    rw [List.take_add_one, List.getElem?_eq_getElem hi2, hf] at hx
    rcases List.mem_append.1 hx with hx | hx
    ·exact hok x hx
    ·simp at hx; subst hx; omega⟩
 ·refine Bff @hlt ?_
  refine AWP.exit ?_
  refine Ev ?_
  have hil : i = l.length := by omega
  subst hil
  rw [List.take_length] at hok
  have hall : l.all (fun f => decide (f.name.length ≤ 200)) = true := by rw [List.all_eq_true]; intro x hx; simpa using hok x hx
  have hfw : fewT l = (decide (l.length ≤ 30) || (decide (256 ≤ l.length) && decide (l.length ≤ 258))) := by unfold fewT; rw [hall, Bool.true_and]
  by_cases c1 : (l.length : Int) ≤ 30
  ·refine Rkf (jn3 @e0 @hlm @c1) ?_
   refine AWP.ret ?_
   exact fin _ _ _ true (by exact Er) ho (by rw [hfw, decide_eq_true (by omega)]; rfl)
  by_cases c2 : (256 : Int) ≤ l.length
  ·refine Rkf (jn4 @e0 @hlm @c1 @c2) ?_
   refine AWP.ret ?_
   refine fin _ _ _ (decide ((l.length : Int) ≤ 258)) (by exact Er) ho ?_
   rw [hfw, decide_eq_false (show ¬ l.length ≤ 30 by omega), decide_eq_true (show 256 ≤ l.length by omega), Bool.false_or, Bool.true_and]
   exact decide_eq_decide.2 (by omega)
  ·refine Rkf (jn4 @e0 @hlm @c1 @c2) ?_
   refine AWP.ret ?_
   exact fin _ _ _ false (by exact Er) ho (by rw [hfw, decide_eq_false (show ¬ l.length ≤ 30 by omega), decide_eq_false (show ¬ 256 ≤ l.length by omega)]; rfl)
abbrev F64V (b : Nat) : AV := .one (.p (.v (.float .f64 b)))
theorem bits_run (args : Array Value) (w : World) : (callFunc 152 args).run Tryz.prog w = ((Extern.MathFloatBits.float64bits args).run Tryz.prog w).andThen fun v w' => .ok (.value v) w' :=
 run_callFunc_extern (fn := Tryz.f152) Tryz.func152 (by kernel_rfl) (by kernel_rfl) (by kernel_rfl) (e := Extern.MathFloatBits.float64bits) (by kernel_rfl) args w
theorem bits_ext {C : Ctx} {h : Heap} {n : Nat} {K : KT} {x : Nat} (k : K (.one (.p (.v (.int .u64 (x : Nat))))) h n) : ExtK Tryz.prog C 152 [F64V x] h n K := by
 intro a w ι Vs I hVs
 obtain ⟨hlen, hVs⟩ := hVs
 match Vs, hlen with
 | [X], _ =>
   have hX := rav_v_inv (hVs 0 _ X rfl rfl)
   subst hX
   refine ⟨.int .u64 x, w, _, h, n, ι, ?_, k, I, rav_v _, .refl _ _ _ _⟩
   rw [bits_run]
   rfl
theorem isNaN64_ok (x : Nat) (h : Heap) (b : Nat) : ACalls Tryz.prog 80 [F64V x] h b 0 (fun r h' => r = BoolV (FloatKind.f64.format.order x x != some .eq) ∧ h' = h) := by
 refine ACalls.enter Tryz.func80 rfl (by simp [Tryz.ntmps80]) (fun ι w hn H => ?_)
 refine Rk ?_
 refine Rk ?_
 refine AWP.ret ?_
 exact Ends.pure hn H (fun _ _ => rfl) (r0 := BoolV (FloatKind.f64.format.order x x != some .eq)) (by rw [show Tryz.f80.results.toList = [.tmp 2] from rfl]; exact Er) (.v _) ⟨rfl, rfl⟩
theorem signbit_ok (x : Nat) (h : Heap) (b : Nat) : ACalls Tryz.prog 153 [F64V x] h b 0 (fun r h' => r = BoolV (decide (IntKind.i64.wrap (x : Int) < 0)) ∧ h' = h) := by
 refine ACalls.enter Tryz.func153 rfl (by simp [Tryz.ntmps153]) (fun ι w hn H => ?_)
 refine Rk ?_
 refine Rg (fun E K hE hK => ?_)
 refine CallR.ext (bits_ext ?_)
 refine Ev ?_
 refine hK _ _ _ ?_; clear hE hK K E
 refine AWP.ret ?_
 exact Ends.pure hn H (fun _ _ => rfl) (r0 := BoolV (decide (IntKind.i64.wrap (x : Int) < 0))) (by rw [show Tryz.f153.results.toList = [.tmp 2] from rfl]; exact Er) (.v _) ⟨rfl, rfl⟩
theorem rnone_ok (x : Nat) (h : Heap) (b : Nat) : ACalls Tryz.prog 175 [F64V x] h b 0 (fun r h' => r = BoolV (FloatKind.f64.format.order x x != some .eq) ∧ h' = h) := by
 refine ACalls.enter Tryz.func175 rfl (by simp [Tryz.ntmps175]) (fun ι w hn H => ?_)
 refine Rk ?_
 refine Rk ?_
 refine AWP.ret ?_
 exact Ends.pure hn H (fun _ _ => rfl) (r0 := BoolV (FloatKind.f64.format.order x x != some .eq)) (by rw [show Tryz.f175.results.toList = [.tmp 2] from rfl]; exact Er) (.v _) ⟨rfl, rfl⟩
def keyR (x : Nat) : Int :=
 if (FloatKind.f64.format.order x x != some .eq) = true then 18446744073709551615
 else if IntKind.i64.wrap (x : Int) < 0 then IntKind.u64.wrap ((BitVec.ofInt IntKind.u64.bits (if IntKind.u64.signed then -1 else IntKind.u64.max) ^^^ BitVec.ofInt IntKind.u64.bits (x : Int)).toNat)
 else IntKind.u64.wrap ((BitVec.ofInt IntKind.u64.bits (x : Int) ||| BitVec.ofInt IntKind.u64.bits 9223372036854775808).toNat)
def keyD (x : Nat) : Int :=
 if (FloatKind.f64.format.order x x != some .eq) = true then 18446744073709551615
 else if (x : Int) < 9223372036854775808 then IntKind.u64.wrap ((x : Int) + 9223372036854775808)
 else IntKind.u64.wrap (18446744073709551615 - (x : Int))
theorem rKeyR_ok (x : Nat) (h : Heap) (b : Nat) : ACalls Tryz.prog 105 [F64V x] h b 0 (fun r h' => r = .one (.p (.v (.int .u64 (keyR x)))) ∧ h' = h) := by
 cases c1 : FloatKind.f64.format.order x x != some .eq
 ·by_cases c2 : IntKind.i64.wrap (x : Int) < 0
  ·rw [show keyR x = IntKind.u64.wrap ((BitVec.ofInt IntKind.u64.bits (if IntKind.u64.signed then -1 else IntKind.u64.max) ^^^ BitVec.ofInt IntKind.u64.bits (x : Int)).toNat) by unfold keyR; rw [if_neg (by rw [c1]; decide), if_pos c2]]
   refine ACalls.enter Tryz.func105 rfl (by simp [Tryz.ntmps105]) (fun ι w hn H => ?_)
   refine Rk ?_
   refine Rg (fun E K hE hK => ?_)
   refine CallR.ext (bits_ext ?_)
   refine Ev ?_
   refine hK _ _ _ ?_; clear hE hK K E
   refine AWP.seq ?_
   refine AWP.block ?_
   refine Rg (fun E K hE hK => ?_)
   refine Us (isNaN64_ok x _ _) body_80 ?_
   refine Evf @c1 ?_
   refine hK _ _ _ ?_; clear hE hK K E
   refine Bf ?_
   refine Rg (fun E K hE hK => ?_)
   refine Us (signbit_ok x _ _) body_153 ?_
   refine Evf @c2 ?_
   refine hK _ _ _ ?_; clear hE hK K E
   refine Bt ?_
   refine Rk ?_
   refine AWP.ret ?_
   refine Ev ?_
   exact Ends.pure hn H (fun _ _ => rfl) (r0 := .one (.p (.v (.int .u64 (IntKind.u64.wrap ((BitVec.ofInt IntKind.u64.bits (if IntKind.u64.signed then -1 else IntKind.u64.max) ^^^ BitVec.ofInt IntKind.u64.bits (x : Int)).toNat)))))) (by rw [show Tryz.f105.results.toList = [.tmp 2] from rfl]; exact Er) (.v _) ⟨rfl, rfl⟩
  ·rw [show keyR x = IntKind.u64.wrap ((BitVec.ofInt IntKind.u64.bits (x : Int) ||| BitVec.ofInt IntKind.u64.bits 9223372036854775808).toNat) by unfold keyR; rw [if_neg (by rw [c1]; decide), if_neg c2]]
   refine ACalls.enter Tryz.func105 rfl (by simp [Tryz.ntmps105]) (fun ι w hn H => ?_)
   refine Rk ?_
   refine Rg (fun E K hE hK => ?_)
   refine CallR.ext (bits_ext ?_)
   refine Ev ?_
   refine hK _ _ _ ?_; clear hE hK K E
   refine AWP.seq ?_
   refine AWP.block ?_
   refine Rg (fun E K hE hK => ?_)
   refine Us (isNaN64_ok x _ _) body_80 ?_
   refine Evf @c1 ?_
   refine hK _ _ _ ?_; clear hE hK K E
   refine Bf ?_
   refine Rg (fun E K hE hK => ?_)
   refine Us (signbit_ok x _ _) body_153 ?_
   refine Evf @c2 ?_
   refine hK _ _ _ ?_; clear hE hK K E
   refine Bf ?_
   refine AWP.skip ?_
   refine Ev ?_
   refine Rk ?_
   refine AWP.ret ?_
   exact Ends.pure hn H (fun _ _ => rfl) (r0 := .one (.p (.v (.int .u64 (IntKind.u64.wrap ((BitVec.ofInt IntKind.u64.bits (x : Int) ||| BitVec.ofInt IntKind.u64.bits 9223372036854775808).toNat)))))) (by rw [show Tryz.f105.results.toList = [.tmp 2] from rfl]; exact Er) (.v _) ⟨rfl, rfl⟩
 ·rw [show keyR x = 18446744073709551615 by unfold keyR; rw [if_pos c1]]
  refine ACalls.enter Tryz.func105 rfl (by simp [Tryz.ntmps105]) (fun ι w hn H => ?_)
  refine Rk ?_
  refine Rg (fun E K hE hK => ?_)
  refine CallR.ext (bits_ext ?_)
  refine Ev ?_
  refine hK _ _ _ ?_; clear hE hK K E
  refine AWP.seq ?_
  refine AWP.block ?_
  refine Rg (fun E K hE hK => ?_)
  refine Us (isNaN64_ok x _ _) body_80 ?_
  refine Evf @c1 ?_
  refine hK _ _ _ ?_; clear hE hK K E
  refine Bt ?_
  refine Rk ?_
  refine AWP.ret ?_
  refine Ev ?_
  exact Ends.pure hn H (fun _ _ => rfl) (r0 := .one (.p (.v (.int .u64 18446744073709551615)))) (by rw [show Tryz.f105.results.toList = [.tmp 2] from rfl]; exact Er) (.v _) ⟨rfl, rfl⟩
theorem rKeyD_ok (x : Nat) (h : Heap) (b : Nat) : ACalls Tryz.prog 129 [F64V x] h b 0 (fun r h' => r = .one (.p (.v (.int .u64 (keyD x)))) ∧ h' = h) := by
 cases c1 : FloatKind.f64.format.order x x != some .eq
 ·by_cases c2 : (x : Int) < 9223372036854775808
  ·rw [show keyD x = IntKind.u64.wrap ((x : Int) + 9223372036854775808) by unfold keyD; rw [if_neg (by rw [c1]; decide), if_pos c2]]
   refine ACalls.enter Tryz.func129 rfl (by simp [Tryz.ntmps129]) (fun ι w hn H => ?_)
   refine Rk ?_
   refine AWP.seq ?_
   refine Rg (fun E K hE hK => ?_)
   refine Us (rnone_ok x _ _) body_175 ?_
   refine Evf @c1 ?_
   refine hK _ _ _ ?_; clear hE hK K E
   refine Bs ?_
   refine Rg (fun E K hE hK => ?_)
   refine CallR.ext (bits_ext ?_)
   refine Ev ?_
   refine hK _ _ _ ?_; clear hE hK K E
   refine AWP.seq ?_
   refine Rkf @c2 ?_
   refine Bt ?_
   refine Rk ?_
   refine AWP.ret ?_
   refine Ev ?_
   exact Ends.pure hn H (fun _ _ => rfl) (r0 := .one (.p (.v (.int .u64 (IntKind.u64.wrap ((x : Int) + 9223372036854775808)))))) (by rw [show Tryz.f129.results.toList = [.tmp 2] from rfl]; exact Er) (.v _) ⟨rfl, rfl⟩
  ·rw [show keyD x = IntKind.u64.wrap (18446744073709551615 - (x : Int)) by unfold keyD; rw [if_neg (by rw [c1]; decide), if_neg c2]]
   refine ACalls.enter Tryz.func129 rfl (by simp [Tryz.ntmps129]) (fun ι w hn H => ?_)
   refine Rk ?_
   refine AWP.seq ?_
   refine Rg (fun E K hE hK => ?_)
   refine Us (rnone_ok x _ _) body_175 ?_
   refine Evf @c1 ?_
   refine hK _ _ _ ?_; clear hE hK K E
   refine Bs ?_
   refine Rg (fun E K hE hK => ?_)
   refine CallR.ext (bits_ext ?_)
   refine Ev ?_
   refine hK _ _ _ ?_; clear hE hK K E
   refine AWP.seq ?_
   refine Rkf @c2 ?_
   refine Bs ?_
   refine Rk ?_
   refine AWP.ret ?_
   exact Ends.pure hn H (fun _ _ => rfl) (r0 := .one (.p (.v (.int .u64 (IntKind.u64.wrap (18446744073709551615 - (x : Int))))))) (by rw [show Tryz.f129.results.toList = [.tmp 2] from rfl]; exact Er) (.v _) ⟨rfl, rfl⟩
 ·rw [show keyD x = 18446744073709551615 by unfold keyD; rw [if_pos c1]]
  refine ACalls.enter Tryz.func129 rfl (by simp [Tryz.ntmps129]) (fun ι w hn H => ?_)
  refine Rk ?_
  refine AWP.seq ?_
  refine Rg (fun E K hE hK => ?_)
  refine Us (rnone_ok x _ _) body_175 ?_
  refine Evf @c1 ?_
  refine hK _ _ _ ?_; clear hE hK K E
  refine Bt ?_
  refine Rk ?_
  refine AWP.ret ?_
  refine Ev ?_
  exact Ends.pure hn H (fun _ _ => rfl) (r0 := .one (.p (.v (.int .u64 18446744073709551615)))) (by rw [show Tryz.f129.results.toList = [.tmp 2] from rfl]; exact Er) (.v _) ⟨rfl, rfl⟩
theorem rankSame_ok (x y : Nat) (h : Heap) (b : Nat) : ACalls Tryz.prog 48 [F64V x, F64V y] h b 0 (fun r h' => r = BoolV (decide (keyR x = keyR y)) ∧ h' = h) := by
 refine ACalls.enter Tryz.func48 rfl (by simp [Tryz.ntmps48]) (fun ι w hn H => ?_)
 refine Rk ?_
 refine Rg (fun E K hE hK => ?_)
 refine Us (rKeyR_ok x _ _) body_105 ?_
 refine Us (rKeyR_ok y _ _) body_105 ?_
 refine hK _ _ _ ?_; clear hE hK K E
 refine AWP.ret ?_
 exact Ends.pure hn H (fun _ _ => rfl) (r0 := BoolV (decide (keyR x = keyR y))) (by rw [show Tryz.f48.results.toList = [.tmp 4] from rfl]; exact Er) (.v _) ⟨rfl, rfl⟩
theorem rankSameD_ok (x y : Nat) (h : Heap) (b : Nat) : ACalls Tryz.prog 75 [F64V x, F64V y] h b 0 (fun r h' => r = BoolV (decide (keyD x = keyD y)) ∧ h' = h) := by
 refine ACalls.enter Tryz.func75 rfl (by simp [Tryz.ntmps75]) (fun ι w hn H => ?_)
 refine Rk ?_
 refine Rg (fun E K hE hK => ?_)
 refine Us (rKeyD_ok x _ _) body_129 ?_
 refine Us (rKeyD_ok y _ _) body_129 ?_
 refine hK _ _ _ ?_; clear hE hK K E
 refine AWP.ret ?_
 exact Ends.pure hn H (fun _ _ => rfl) (r0 := BoolV (decide (keyD x = keyD y))) (by rw [show Tryz.f75.results.toList = [.tmp 4] from rfl]; exact Er) (.v _) ⟨rfl, rfl⟩
def sameX (k : Nat → Int) (f g : Fl) : Bool := decide (f.name = g.name) && (decide (k f.rank = k g.rank) && (decide (f.sum = g.sum) && (decide (f.blk = g.blk) && (decide (f.frm = g.frm) && decide (f.len = g.len)))))
def sameL (k : Nat → Int) : List Fl → List Fl → Bool
 | [], [] => true
 | f :: l, g :: m => sameX k f g && sameL k l m
 | _, _ => false
theorem oneGD_ok (f g : Fl) (h : Heap) (b : Nat) : ACalls Tryz.prog 130 [FlV f, FlV g] h b 0 (fun r h' => r = BoolV (sameX keyD f g) ∧ h' = h) := by
 refine ACalls.enter Tryz.func130 rfl (by simp [Tryz.ntmps130]) (fun ι w hn H => ?_)
 have fin : ∀ (t : Nat → AV) (hh : Heap) (n : Nat) (v : Bool), t 4 = BoolV v → (∀ id, id < b → hh id = h id) → v = sameX keyD f g → Am.Ends Tryz.prog ⟨Tryz.f130.ntmps, b, ι, h, w, x0⟩ Tryz.f130 0 (fun r h' => r = BoolV (sameX keyD f g) ∧ h' = h) ⟨t, hh, n⟩ := by
  intro t hh n v ht ho hv
  exact Ends.pure hn H ho (r0 := BoolV v) (by rw [show Tryz.f130.results.toList = [.tmp 4] from rfl]; exact Ecf @ht) (.v _) ⟨by rw [hv], rfl⟩
 refine Rk ?_
 by_cases c0 : f.name = g.name
 case neg =>
  have d0 : (f.name = g.name) = False := eq_false c0
  refine Rkf (jn2 @mkS_list @d0) ?_
  refine AWP.ret ?_
  exact fin _ _ _ false (by exact Er) Ou (by unfold sameX; simp [c0])
 have d0 : (f.name = g.name) = True := eq_true c0
 by_cases c9 : keyD f.rank = keyD g.rank
 case neg =>
  have d9 : decide (keyD f.rank = keyD g.rank) = false := decide_eq_false c9
  refine Rgf (jn2 @mkS_list @d0) (fun E K hE hK => ?_)
  refine Us (rankSameD_ok f.rank g.rank _ _) body_75 ?_
  refine Evf @d9 ?_
  refine hK _ _ _ ?_; clear hE hK K E
  refine AWP.ret ?_
  exact fin _ _ _ false (by exact Er) Ou (by unfold sameX; simp [c9])
 have d9 : decide (keyD f.rank = keyD g.rank) = true := decide_eq_true c9
 by_cases c1 : f.sum = g.sum
 case neg =>
  have d1 : (f.sum = g.sum) = False := eq_false c1
  refine Rgf (jn2 @mkS_list @d0) (fun E K hE hK => ?_)
  refine Us (rankSameD_ok f.rank g.rank _ _) body_75 ?_
  refine Evf (jn2 @d9 @d1) ?_
  refine hK _ _ _ ?_; clear hE hK K E
  refine AWP.ret ?_
  exact fin _ _ _ false (by exact Er) Ou (by unfold sameX; simp [c1])
 have d1 : (f.sum = g.sum) = True := eq_true c1
 by_cases c2 : f.blk = g.blk
 case neg =>
  have d2 : (f.blk = g.blk) = False := eq_false c2
  refine Rgf (jn2 @mkS_list @d0) (fun E K hE hK => ?_)
  refine Us (rankSameD_ok f.rank g.rank _ _) body_75 ?_
  refine Evf (jn3 @d9 @d1 @d2) ?_
  refine hK _ _ _ ?_; clear hE hK K E
  refine AWP.ret ?_
  exact fin _ _ _ false (by exact Er) Ou (by unfold sameX; simp [c2])
 have d2 : (f.blk = g.blk) = True := eq_true c2
 by_cases c3 : f.frm = g.frm
 case neg =>
  have d3 : (f.frm = g.frm) = False := eq_false c3
  refine Rgf (jn2 @mkS_list @d0) (fun E K hE hK => ?_)
  refine Us (rankSameD_ok f.rank g.rank _ _) body_75 ?_
  refine Evf (jn4 @d9 @d1 @d2 @d3) ?_
  refine hK _ _ _ ?_; clear hE hK K E
  refine AWP.ret ?_
  exact fin _ _ _ false (by exact Er) Ou (by unfold sameX; simp [c3])
 have d3 : (f.frm = g.frm) = True := eq_true c3
 by_cases c4 : f.len = g.len
 case neg =>
  have d4 : (f.len = g.len) = False := eq_false c4
  refine Rgf (jn2 @mkS_list @d0) (fun E K hE hK => ?_)
  refine Us (rankSameD_ok f.rank g.rank _ _) body_75 ?_
  refine Evf (jn5 @d9 @d1 @d2 @d3 @d4) ?_
  refine hK _ _ _ ?_; clear hE hK K E
  refine AWP.ret ?_
  exact fin _ _ _ false (by exact Er) Ou (by unfold sameX; simp [c4])
 have d4 : (f.len = g.len) = True := eq_true c4
 refine Rgf (jn2 @mkS_list @d0) (fun E K hE hK => ?_)
 refine Us (rankSameD_ok f.rank g.rank _ _) body_75 ?_
 refine Evf (jn5 @d9 @d1 @d2 @d3 @d4) ?_
 refine hK _ _ _ ?_; clear hE hK K E
 refine AWP.ret ?_
 exact fin _ _ _ true (by exact Er) Ou (by unfold sameX; simp [c0, c9, c1, c2, c3, c4])
theorem sameL_len {k : Nat → Int} : ∀ {l m : List Fl}, l.length ≠ m.length → sameL k l m = false
 | [], [], h => absurd rfl h
 | [], _ :: _, _ => rfl
 | _ :: _, [], _ => rfl
 | f :: l, g :: m, h => by
   show (sameX k f g && sameL k l m) = false
   rw [sameL_len (l := l) (m := m) (by simpa using h), Bool.and_false]
theorem sameX_refl (k : Nat → Int) (f : Fl) : sameX k f f = true := by simp [sameX]
theorem sameL_refl (k : Nat → Int) : ∀ l : List Fl, sameL k l l = true
 | [] => rfl
 | f :: l => by
   show (sameX k f f && sameL k l l) = true
   rw [sameX_refl, sameL_refl k l]; rfl
def rsgI (l m : List Fl) (h : Heap) (b i : Nat) (st : St) : Prop :=
 st.h = h ∧ st.t 0 = FlsV l ∧ st.t 1 = FlsV m ∧ st.t 12 = IntV l.length ∧ st.t 13 = IntV (i : Nat) ∧ sameL keyD l m = sameL keyD (l.drop i) (m.drop i)
theorem rSameG_ok (l m : List Fl) (hl : l.length ≤ 1000000) (h : Heap) (b : Nat) : ACalls Tryz.prog 77 [FlsV l, FlsV m] h b 0 (fun r h' => r = BoolV (sameL keyD l m) ∧ h' = h) := by
 refine ACalls.enter Tryz.func77 rfl (by simp [Tryz.ntmps77]) (fun ι w hn H => ?_)
 have hlm : (l.map encF).length = l.length := List.length_map _
 have hmm : (m.map encF).length = m.length := List.length_map _
 have fin : ∀ (t : Nat → AV) (n : Nat) (v : Bool), t 4 = BoolV v → v = sameL keyD l m → Am.Ends Tryz.prog ⟨Tryz.f77.ntmps, b, ι, h, w, x0⟩ Tryz.f77 0 (fun r h' => r = BoolV (sameL keyD l m) ∧ h' = h) ⟨t, h, n⟩ := by
  intro t n v ht hv
  exact Ends.pure hn H (fun _ _ => rfl) (r0 := BoolV v) (by rw [show Tryz.f77.results.toList = [.tmp 4] from rfl]; exact Ecf @ht) (.v _) ⟨by rw [hv], rfl⟩
 refine Rk ?_
 refine AWP.seq ?_
 by_cases hlen : (l.length : Int) = m.length
 case neg =>
  refine Rkf (jn3 @hlm @hmm @hlen) ?_
  refine Bt ?_
  refine Rk ?_
  refine AWP.ret ?_
  refine Ev ?_
  exact fin _ _ false (by exact Er) (sameL_len (by omega)).symm
 refine Rkf (jn3 @hlm @hmm @hlen) ?_
 refine Bs ?_
 refine AWP.seq ?_
 refine Rkf @hlm ?_
 refine AWP.block ?_
 refine AWP.loopK 0 (fun k st => ∃ i, i ≤ l.length ∧ k = l.length - i ∧ rsgI l m h b i st) l.length rfl ⟨0, Nat.zero_le _, rfl, rfl, by exact Er, by exact Er, by exact Er, by exact Er, rfl⟩ ?_
 rintro k ⟨t, hh, n⟩ ⟨i, hi, rfl, rfl, e0, e1, e12, e13, hx⟩ hn1
 simp only at e0 e1 e12 e13 hn1
 subst hn1
 refine Rkf (jn2 @e12 @e13) ?_
 refine AWP.seq ?_
 by_cases hlt : (i : Int) < l.length
 ·have hw1 : IntKind.i64.wrap ((i : Int) + 1) = ((i + 1 : Nat) : Int) := by rw [wrap_i64 (by omega) (by omega)]; rfl
  have hi2 : i < l.length := by omega
  have hi3 : i < m.length := by omega
  have hltm : (i : Int) < m.length := by omega
  have hge := encF_getD l i hi2
  have hgm := encF_getD m i hi3
  obtain ⟨f, hf⟩ : ∃ f, l[i] = f := ⟨_, rfl⟩
  obtain ⟨g, hg⟩ : ∃ g, m[i] = g := ⟨_, rfl⟩
  have hstep : sameL keyD (l.drop i) (m.drop i) = (sameX keyD f g && sameL keyD (l.drop (i + 1)) (m.drop (i + 1))) := by
   rw [List.drop_eq_getElem_cons hi2, List.drop_eq_getElem_cons hi3, hf, hg]; rfl
  rw [hf] at hge
  rw [hg] at hgm
  refine Btf @hlt ?_
  refine AWP.skip ?_
  refine Ev ?_
  refine AWP.seq ?_
  refine AWP.block ?_
  refine Rkf @e13 ?_
  cases hs : sameX keyD f g
  ·refine AWP.seqRegD [] [] [] mixed (by kernel_rfl) (by kernel_rfl) (fun K hK => .inl ?_) (by kernel_rfl); simp -implicitDefEqProofs only [go_sem, ↓reduceIte, Nat.reduceEqDiff, Nat.reduceAdd, Nat.reduceLT, Nat.reduceLeDiff, reduceCtorEq, Int.toNat_natCast, e0, e1, hlm, hmm, hlt, hltm, hge, hgm]
   refine ⟨by omega, by omega, ?_⟩
   refine Ud (oneGD_ok f g _ _) body_130 ?_
   refine Evf @hs ?_
   refine hK _ _ _ ?_; clear hK K
   refine Bt ?_
   refine Rk ?_
   refine AWP.ret ?_
   refine Ev ?_
   exact fin _ _ false (by exact Er) (by rw [hx, hstep, hs]; rfl)
  ·refine AWP.seqRegD [] [] [] mixed (by kernel_rfl) (by kernel_rfl) (fun K hK => .inl ?_) (by kernel_rfl); simp -implicitDefEqProofs only [go_sem, ↓reduceIte, Nat.reduceEqDiff, Nat.reduceAdd, Nat.reduceLT, Nat.reduceLeDiff, reduceCtorEq, Int.toNat_natCast, e0, e1, hlm, hmm, hlt, hltm, hge, hgm]
   refine ⟨by omega, by omega, ?_⟩
   refine Ud (oneGD_ok f g _ _) body_130 ?_
   refine Evf @hs ?_
   refine hK _ _ _ ?_; clear hK K
   refine Bf ?_
   refine AWP.skip ?_
   refine Ev ?_
   refine Raf (jn2 @e13 @hw1) (fun E K hE hK => ?_); refine hK _ _ _ ?_; clear hE hK K E
   exact ⟨rfl, l.length - (i + 1), by omega, i + 1, by omega, rfl, rfl, by exact Ecf @e0, by exact Ecf @e1, by exact Ecf @e12, by exact Er, by rw [hx, hstep, hs, Bool.true_and]⟩
 ·refine Bff @hlt ?_
  refine AWP.exit ?_
  refine Ev ?_
  refine Rk ?_
  refine AWP.ret ?_
  refine fin _ _ true (by exact Er) ?_
  have h1 : i = l.length := by omega
  have h2 : i = m.length := by omega
  rw [hx, h1, List.drop_length, show l.length = m.length by omega, List.drop_length]; rfl
theorem or_key (x : Nat) (hx : x < 9223372036854775808) : (BitVec.ofInt IntKind.u64.bits (x : Int) ||| BitVec.ofInt IntKind.u64.bits 9223372036854775808).toNat = x + 9223372036854775808 := by
 show (BitVec.ofInt 64 (x : Int) ||| BitVec.ofInt 64 9223372036854775808).toNat = _
 have e : BitVec.ofInt 64 9223372036854775808 = BitVec.ofNat 64 9223372036854775808 := by decide
 have hb : BitVec.ofInt 64 (x : Int) = BitVec.ofNat 64 x := BitVec.ofInt_natCast 64 x
 rw [e, hb, BitVec.toNat_or, BitVec.toNat_ofNat, BitVec.toNat_ofNat, Nat.mod_eq_of_lt (by omega), Nat.mod_eq_of_lt (by decide), Nat.or_comm]
 have := Nat.two_pow_add_eq_or_of_lt (i := 63) (b := x) (by omega) 1
 rw [show 2 ^ 63 * 1 = 9223372036854775808 from rfl] at this
 rw [← this]; omega
theorem xor_key (x : Nat) (hx : x < 18446744073709551616) : (BitVec.ofInt IntKind.u64.bits (if IntKind.u64.signed then -1 else IntKind.u64.max) ^^^ BitVec.ofInt IntKind.u64.bits (x : Int)).toNat = 18446744073709551615 - x := by
 show (BitVec.ofInt 64 18446744073709551615 ^^^ BitVec.ofInt 64 (x : Int)).toNat = _
 have e : BitVec.ofInt 64 18446744073709551615 = BitVec.allOnes 64 := by decide
 have hb : BitVec.ofInt 64 (x : Int) = BitVec.ofNat 64 x := BitVec.ofInt_natCast 64 x
 rw [e, hb, BitVec.allOnes_xor, BitVec.toNat_not, BitVec.toNat_ofNat, Nat.mod_eq_of_lt (by omega)]
theorem key_eq (x : Nat) (hx : x < 18446744073709551616) : keyR x = keyD x := by
 have hw : IntKind.i64.wrap (x : Int) < 0 ↔ ¬ (x : Int) < 9223372036854775808 := by rw [IntKind.wrap_i64]; omega
 unfold keyR keyD
 split
 ·rfl
 ·by_cases c : (x : Int) < 9223372036854775808
  ·rw [if_neg (fun e => hw.1 e c), if_pos c, or_key x (by omega), show ((x + 9223372036854775808 : Nat) : Int) = (x : Int) + 9223372036854775808 by omega]
  ·rw [if_pos (hw.2 c), if_neg c, xor_key x hx, show ((18446744073709551615 - x : Nat) : Int) = 18446744073709551615 - (x : Int) by omega]
def okG (p : S) : Prop := p = [] ∨ chkN p = 0
theorem cmpG_ok (a c : S) (ha : okG a) (hc : okG c) (h : Heap) (b : Nat) : ACalls Tryz.prog 65 [StrV a, StrV c] h b 0 (fun r h' => r = IntV (cmpF a c) ∧ h' = h) := by
 refine ACalls.enter Tryz.func65 rfl (by simp [Tryz.ntmps65]) (fun ι w hn H => ?_)
 have fin : ∀ (t : Nat → AV) (n : Nat) (v : Int), t 4 = IntV v → v = cmpF a c → Am.Ends Tryz.prog ⟨Tryz.f65.ntmps, b, ι, h, w, x0⟩ Tryz.f65 0 (fun r h' => r = IntV (cmpF a c) ∧ h' = h) ⟨t, h, n⟩ := by
  intro t n v ht hv
  exact Ends.pure hn H (fun _ _ => rfl) (r0 := IntV v) (by rw [show Tryz.f65.results.toList = [.tmp 4] from rfl]; exact Ecf @ht) (.v _) ⟨by rw [hv], rfl⟩
 refine Rk ?_
 refine AWP.seq ?_
 refine AWP.block ?_
 by_cases h1 : a = c
 ·have e1 : (a = c) = True := eq_true h1
  refine Rkf (jn2 @mkS_list @e1) ?_
  refine Bt ?_
  refine Rk ?_
  refine AWP.ret ?_
  refine Ev ?_
  exact fin _ _ 0 (by exact Er) (by unfold cmpF; rw [if_pos h1])
 have e1 : (a = c) = False := eq_false h1
 refine Rkf (jn2 @mkS_list @e1) ?_
 refine Bf ?_
 by_cases h2 : a = []
 ·subst h2
  refine Rkf @mkS_list ?_
  refine Bt ?_
  refine Rk ?_
  refine AWP.ret ?_
  refine Ev ?_
  exact fin _ _ (-1) (by exact Er) (by unfold cmpF; rw [if_neg h1, if_pos rfl])
 have e2 : (a = []) = False := eq_false h2
 refine Rkf (jn2 @mkS_list @e2) ?_
 refine Bf ?_
 by_cases h3 : c = []
 ·subst h3
  refine Rkf @mkS_list ?_
  refine Bt ?_
  refine Rk ?_
  refine AWP.ret ?_
  refine Ev ?_
  exact fin _ _ 1 (by exact Er) (by unfold cmpF; rw [if_neg h1, if_neg h2, if_pos rfl])
 have e3 : (c = []) = False := eq_false h3
 refine Rkf (jn2 @mkS_list @e3) ?_
 refine Bf ?_
 refine AWP.skip ?_
 refine Ev ?_
 have ca : chkN a = 0 := by rcases ha with e | e; exact absurd e h2; exact e
 have cc : chkN c = 0 := by rcases hc with e | e; exact absurd e h3; exact e
 have hcm : cmpN a c = (cK a c, 0) := cmpN_ok (chkN_zero.1 ca) (chkN_zero.1 cc)
 refine Rg (fun E K hE hK => ?_)
 refine Us (Cmp_ok (mkS a) (mkS c) _ _) body_119 ?_
 refine Evf (jn2 @mkS_list @hcm) ?_
 refine hK _ _ _ ?_; clear hE hK K E
 refine Rk ?_
 refine AWP.ret ?_
 exact fin _ _ (cK a c) (by exact Er) (cmpF_clean h2 h3).symm
theorem orderG_ok (k : Ed) (p : S) (hk : okG k.name) (hp : okG p) (h : Heap) (b : Nat) : ACalls Tryz.prog 88 [EdV k, StrV p] h b 0 (fun r h' => r = IntV (cmpF k.name p) ∧ h' = h) := by
 refine ACalls.enter Tryz.func88 rfl (by simp [Tryz.ntmps88]) (fun ι w hn H => ?_)
 refine Rk ?_
 refine Rg (fun E K hE hK => ?_)
 refine Us (cmpG_ok k.name p hk hp _ _) body_65 ?_
 refine hK _ _ _ ?_; clear hE hK K E
 refine AWP.ret ?_
 exact Ends.pure hn H Ou (r0 := IntV (cmpF k.name p)) (by rw [show Tryz.f88.results.toList = [.tmp 4] from rfl]; exact Er) (.v _) ⟨rfl, rfl⟩
theorem eFind_ok (l : List Ed) (p : S) (hr : Ris nmE l) (hl : l.length ≤ 1000000) (hc : ∀ x ∈ l, chkN x.name = 0) (hp : okG p) (h : Heap) (b : Nat) :
  ACalls Tryz.prog 111 [EdsV l, StrV p, .one (.clo (.func 88) [] [])] h b 0 (fun r h' => r = .tup [IntV (posK nmE p l), BoolV (getK nmE p l).isSome] ∧ h' = h) :=
 bsed_ok l (mkS p) 88 (fun k => cmpF k.name p) (posK nmE p l) hl body_88 (fun x hx h b => orderG_ok x p (.inr (hc x hx)) hp h b) (posK_le p l) (fun j hj hk => posK_lo hr j hj hk) (fun j hj hk => posK_hi hr j hj hk) _ (isK hr) h b
theorem sFindG_ok (l : List S) (p : S) (hr : Ris nmQ l) (hl : l.length ≤ 1000000) (hc : ∀ x ∈ l, okG x) (hp : okG p) (h : Heap) (b : Nat) :
  ACalls Tryz.prog 115 [ListV l, StrV p, .one (.clo (.func 65) [] [])] h b 0 (fun r h' => r = .tup [IntV (posK nmQ p l), BoolV (getK nmQ p l).isSome] ∧ h' = h) :=
 bsst_ok l (mkS p) 65 (fun k => cmpF k p) (posK nmQ p l) hl body_65 (fun x hx h b => cmpG_ok x p (hc x hx) hp h b) (posK_le p l) (fun j hj hk => posK_lo hr j hj hk) (fun j hj hk => posK_hi hr j hj hk) _ (isK hr) h b
theorem view_1 {h : Heap} {D : Nat → Bool} {id : Nat} (p : PD) (ho : okPD p = true) (hD : D id = true) (hb : h id = some ⟨0, [.p p]⟩) : ViewC h D (.win id 0 0 1 1) (.p (.sl 1 [[p]])) :=
 @view_rowT h D id 0 1 1 0 0 1 [[p]] [] hD (by rw [hb]; rfl) (by intro e he; simp at he; subst he; exact ⟨rfl, by simpa using ho⟩) (by simp) rfl
theorem octE_mapM : ∀ s : S, octE (s.map encO) = some s
 | [] => rfl
 | x :: l => by
   show (match octV (.v (.int .u8 x.toNat)), octE (l.map encO) with | some c, some cs => some (c :: cs) | _, _ => none) = _
   rw [octE_mapM l, show octV (.v (.int .u8 x.toNat)) = some x by simp [octV]; have := x.toNat_lt; omega]
theorem bytesEqM_ok (s u : S) (h : Heap) (b : Nat) : ACalls Tryz.prog 49 [OctV s, OctV u] h b 0 (fun r h' => r = BoolV (decide (s = u)) ∧ h' = h) := by
 refine ACalls.enter Tryz.func49 rfl (by simp [Tryz.ntmps49]) (fun ι w hn H => ?_)
 have o1 := octE_mapM s
 have o2 := octE_mapM u
 have ho : octT Tryz.prog 38 9 = true := by kernel_rfl
 refine Rk ?_
 refine Rkf (jn3 @o1 @o2 @ho) ?_
 refine AWP.ret ?_
 exact Ends.pure hn H (fun _ _ => rfl) (r0 := BoolV (decide (s = u))) (by rw [show Tryz.f49.results.toList = [.tmp 4] from rfl]; exact Er) (.v _) ⟨rfl, rfl⟩
def oneX (a c : Ed) : Bool := decide (a.name = c.name) && (decide (a.gone = c.gone) && (decide (keyR a.rank = keyR c.rank) && (decide (a.of = c.of) && decide (a.data = c.data))))
theorem sone_ok (a c : Ed) (h : Heap) (b : Nat) : ACalls Tryz.prog 91 [EdV a, EdV c] h b 0 (fun r h' => r = BoolV (oneX a c) ∧ h' = h) := by
 refine ACalls.enter Tryz.func91 rfl (by simp [Tryz.ntmps91]) (fun ι w hn H => ?_)
 have fin : ∀ (t : Nat → AV) (hh : Heap) (n : Nat) (v : Bool), t 4 = BoolV v → (∀ id, id < b → hh id = h id) → v = oneX a c → Am.Ends Tryz.prog ⟨Tryz.f91.ntmps, b, ι, h, w, x0⟩ Tryz.f91 0 (fun r h' => r = BoolV (oneX a c) ∧ h' = h) ⟨t, hh, n⟩ := by
  intro t hh n v ht ho hv
  exact Ends.pure hn H ho (r0 := BoolV v) (by rw [show Tryz.f91.results.toList = [.tmp 4] from rfl]; exact Ecf @ht) (.v _) ⟨by rw [hv], rfl⟩
 refine Rk ?_
 by_cases c0 : a.name = c.name
 case neg =>
  have d0 : (a.name = c.name) = False := eq_false c0
  refine Rkf (jn2 @mkS_list @d0) ?_
  refine AWP.ret ?_
  exact fin _ _ _ false (by exact Er) Ou (by simp [oneX, c0])
 have d0 : (a.name = c.name) = True := eq_true c0
 cases hag : a.gone <;> cases hcg : c.gone
 case false.true =>
  refine Rkf (jn4 @mkS_list @d0 @hag @hcg) ?_
  refine AWP.ret ?_
  exact fin _ _ _ false (by exact Er) Ou (by simp [oneX, hag, hcg])
 case true.false =>
  refine Rkf (jn4 @mkS_list @d0 @hag @hcg) ?_
  refine AWP.ret ?_
  exact fin _ _ _ false (by exact Er) Ou (by simp [oneX, hag, hcg])
 all_goals
  cases c2 : decide (keyR a.rank = keyR c.rank)
  case false =>
   refine Rgf (jn4 @mkS_list @d0 @hag @hcg) (fun E K hE hK => ?_)
   refine Us (rankSame_ok a.rank c.rank _ _) body_48 ?_
   refine Evf @c2 ?_
   refine hK _ _ _ ?_; clear hE hK K E
   refine AWP.ret ?_
   exact fin _ _ _ false (by exact Er) Ou (by simp [oneX, c2])
  by_cases c3 : a.of = c.of
  case neg =>
   have d3 : (a.of = c.of) = False := eq_false c3
   refine Rgf (jn4 @mkS_list @d0 @hag @hcg) (fun E K hE hK => ?_)
   refine Us (rankSame_ok a.rank c.rank _ _) body_48 ?_
   refine Evf (jn3 @c2 @mkS_list @d3) ?_
   refine hK _ _ _ ?_; clear hE hK K E
   refine AWP.ret ?_
   exact fin _ _ _ false (by exact Er) Ou (by simp [oneX, c3])
  have d3 : (a.of = c.of) = True := eq_true c3
  refine Rgf (jn4 @mkS_list @d0 @hag @hcg) (fun E K hE hK => ?_)
  refine Us (rankSame_ok a.rank c.rank _ _) body_48 ?_
  refine Evf (jn3 @c2 @mkS_list @d3) ?_
  refine Us (bytesEqM_ok a.data c.data _ _) body_49 ?_
  refine hK _ _ _ ?_; clear hE hK K E
  refine AWP.ret ?_
  exact fin _ _ _ (decide (a.data = c.data)) (by exact Er) Ou (by simp [oneX, c0, hag, hcg, of_decide_eq_true c2, c3])
end Go.Proofs.YtihgnpboabpchaaGreatDoor
namespace Go.Proofs.YtihgnpboabpchaaGreatDoor.PdSt
set_option linter.unusedSimpArgs false
set_option linter.unusedVariables false
set_option linter.unnecessarySimpa false
open Go Am
set_option maxRecDepth 100000
abbrev El := {p : S // okG p}
instance : Inhabited El := ⟨⟨[], .inl rfl⟩⟩
abbrev encQ (x : El) : List PD := encS x.1
abbrev elQ (x : El) : AV := StrV x.1
theorem okEs_q (l : List El) : okEs 1 (l.map encQ) := fun e he => by
 obtain ⟨x, _, rfl⟩ := List.mem_map.1 he
 exact ⟨rfl, fun d hd => by simp at hd; subst hd; rfl⟩
abbrev celQ (d : Array El) (T : List Cell) : List Cell := (d.toList.map encQ).flatten.map .p ++ T
abbrev rowQ (ver : Nat) (d : Array El) (T : List Cell) : Blk := rowB ver (d.toList.map encQ) T
theorem celQ_len (d : Array El) (T : List Cell) : (celQ d T).length = d.size * 1 + T.length := by
 unfold celQ
 rw [List.length_append, List.length_map, okEs_len (okEs_q _), List.length_map, Array.length_toList]
theorem celQ_at (d : Array El) (T : List Cell) (i : Nat) (hi : i < d.size) : List.take 1 (List.drop (i * 1) (celQ d T)) = (encQ d[i]!).map .p :=
 row_part T (okEs_q _) (by
  rw [List.getElem?_map, Array.getElem?_toList, getElem!_pos d i hi, Array.getElem?_eq_getElem hi]; rfl)
theorem celQ_get (d : Array El) (T : List Cell) (i : Nat) (hi : i < d.size) : (celQ d T)[i * 1]? = some (.p (.v (.string (mkS d[i]!.1)))) := by
 have h := celQ_at d T i hi
 have h2 := congrArg (fun l => l[0]?) h
 simpa using h2
theorem celQ_set (d : Array El) (T : List Cell) (i : Nat) (hi : i < d.size) (x : El) : List.take (i * 1) (celQ d T) ++ .p (.v (.string (mkS x.1))) :: List.drop (i * 1 + 1) (celQ d T) = celQ (d.setIfInBounds i x) T := by
 have h := spl_row (es := d.toList.map encQ) (fs := [encQ x]) (i := i) T (okEs_q _) (okEs_q [x]) (by simp; omega)
 have e : (d.setIfInBounds i x).toList = d.toList.take i ++ (x :: d.toList.drop (i + 1)) := by
  rw [Array.toList_setIfInBounds, List.set_eq_take_append_cons_drop, if_pos (by simpa using hi)]
 unfold celQ
 rw [e]
 simpa [spl] using h
abbrev EqC (x y : El) : Prop := (mkS x.val).data.toList = (mkS y.val).data.toList
theorem eqC_iff {x y : El} : EqC x y ↔ x = y := ⟨fun h => Subtype.ext h, fun h => by rw [h]⟩
structure CmpQ (g : FuncId) (z : El → El → Int) : Prop where
 body : bodyB Tryz.prog g = true
 calls : ∀ (x y : El) (h : Heap) (b : Nat), ACalls Tryz.prog g [elQ x, elQ y] h b 0 (fun r h' => r = IntV (z x y) ∧ h' = h)
theorem swp_size (d : Array El) (i j : Nat) : (Sort.swp d i j).size = d.size := by unfold Sort.swp; simp
abbrev ltZ (z : El → El → Int) (x y : El) : Bool := decide (z x y < 0)
abbrev cloV (g : FuncId) : AV := .one (.clo (.func g) [] [])
abbrev winQ (id ver cap n : Nat) : AV := .one (.win id ver 0 n cap)
abbrev swB (v : Nat) (s : Nat) : Blk := ⟨v, [.p (.v (.int .i64 (s : Int)))]⟩
structure PdAt (h : Heap) (id ver : Nat) (d : Array El) (T : List Cell) : Prop where
 row : h id = some (rowQ ver d T)
 low : lowCs 0 T = true
 size : d.size ≤ 1000000000
theorem PdAt.upd {h : Heap} {id ver : Nat} {d : Array El} {T : List Cell} (k : PdAt h id ver d T) {S : Nat} (hSi : ¬ S = id) (blk : Blk) : PdAt (Am.upd h S blk) id ver d T := ⟨by rw [upd_ne _ _ _ _ (fun e => hSi e.symm)]; exact k.row, k.low, k.size⟩
theorem awp_st {P : Program} {C : Ctx} {c : Code} {Q : Exit → St → Prop} {s : St} (M : St → Prop) (h : M s) (k : ∀ s, M s → AWP P C c Q s) : AWP P C c Q s := k s h
theorem w_add {a c : Nat} (h : a + c < 4611686018427387904) : IntKind.i64.wrap ((a : Int) + (c : Int)) = ((a + c : Nat) : Int) := by rw [wrap_i64 (by omega) (by omega)]; omega
theorem w_add1 {a : Nat} (h : a < 4611686018427387904) : IntKind.i64.wrap ((a : Int) + 1) = ((a + 1 : Nat) : Int) := by rw [wrap_i64 (by omega) (by omega)]; omega
theorem w_sub {a c : Nat} (h : c ≤ a) (ha : a < 4611686018427387904) : IntKind.i64.wrap ((a : Int) - (c : Int)) = ((a - c : Nat) : Int) := by rw [wrap_i64 (by omega) (by omega)]; omega
theorem w_sub1 {a : Nat} (h : 1 ≤ a) (ha : a < 4611686018427387904) : IntKind.i64.wrap ((a : Int) - 1) = ((a - 1 : Nat) : Int) := by rw [wrap_i64 (by omega) (by omega)]; omega
theorem order2_ok {g : FuncId} {z : El → El → Int} (cm : CmpQ g z) {h : Heap} {b id ver cap : Nat} {d : Array El} {T : List Cell} (k : PdAt h id ver d T) (a c S sv s : Nat) (ha : a < d.size) (hc : c < d.size) (hS : S < b) (hSi : ¬ S = id) (hs : h S = some (swB sv s)) (hsl : s ≤ 1000000) :
  ACalls Tryz.prog 219 [winQ id ver cap d.size, IntV a, IntV c, .one (.ptr S sv 0), cloV g] h b 0
   (fun r h' => r = .tup [IntV (Sort.order2 (ltZ z) d a c s).1, IntV (Sort.order2 (ltZ z) d a c s).2.1] ∧ h' = upd h S (swB sv (Sort.order2 (ltZ z) d a c s).2.2)) := by
 refine ACalls.enter Tryz.func219 rfl (by simp [Tryz.ntmps219]) (fun ι w hn H => ?_)
 have hpa := celQ_get d T a ha
 have hpc := celQ_get d T c hc
 have hb' : h id = some ⟨ver, celQ d T⟩ := k.row
 have hL := celQ_len d T
 have hia : (a : Int) < d.size := by omega
 have hic : (c : Int) < d.size := by omega
 generalize celQ d T = L at hpa hpc hb' hL
 obtain ⟨x, hx⟩ : ∃ x, d[a]! = x := ⟨_, rfl⟩
 obtain ⟨y, hy⟩ : ∃ y, d[c]! = y := ⟨_, rfl⟩
 rw [hx] at hpa
 rw [hy] at hpc
 refine Rk ?_
 refine AWP.seq ?_
 refine AWP.seqRegD [] [] [] mixed (by kernel_rfl) (by kernel_rfl) (fun K hK => .inl ?_) (by kernel_rfl); simp -implicitDefEqProofs only [go_sem, ↓reduceIte, Nat.reduceEqDiff, Nat.reduceAdd, Nat.reduceLT, Nat.reduceLeDiff, reduceCtorEq, Int.toNat_natCast, hb', hpa, hpc, hia, hic]
 repeat (refine ⟨by omega, ?_⟩)
 refine Ud (cm.calls y x _ _) cm.body ?_
 have hw := w_add1 (a := s) (by omega)
 by_cases hlt : z y x < 0
 ·have e : Sort.order2 (ltZ z) d a c s = (c, a, s + 1) := by unfold Sort.order2; rw [hx, hy, if_pos (by simp [hlt])]
  refine hK _ _ _ ?_; clear hK K
  refine Btf @hlt ?_
  refine Rkf (jn2 @hs @hw) ?_
  refine Rk ?_
  refine AWP.ret ?_
  refine Ev ?_
  refine Ends.turn hn H hS (blk := swB sv (s + 1)) (fun i hi => ?_) rfl (r0 := .tup [IntV c, IntV a]) (by rw [show Tryz.f219.results.toList = [.tmp 10, .tmp 11] from rfl]; exact Er) (frz_tup2 (.v _) (.v _)) ⟨by rw [e], by rw [e]⟩
  rfl
 ·have e : Sort.order2 (ltZ z) d a c s = (a, c, s) := by unfold Sort.order2; rw [hx, hy, if_neg (by simp [hlt])]
  refine hK _ _ _ ?_; clear hK K
  refine Bsf @hlt ?_
  refine Rk ?_
  refine AWP.ret ?_
  refine Ev ?_
  refine Ends.turn hn H hS (blk := swB sv s) (fun i hi => ?_) rfl (r0 := .tup [IntV a, IntV c]) (by rw [show Tryz.f219.results.toList = [.tmp 10, .tmp 11] from rfl]; exact Er) (frz_tup2 (.v _) (.v _)) ⟨by rw [e], by rw [e]⟩
  by_cases e : i = S
  ·subst e; rw [upd_same, ← hs]
  ·rw [upd_ne _ _ _ _ e]
theorem order2_lt {lt : El → El → Bool} {d : Array El} {a c s n : Nat} (ha : a < n) (hc : c < n) : (Sort.order2 lt d a c s).1 < n ∧ (Sort.order2 lt d a c s).2.1 < n ∧ (Sort.order2 lt d a c s).2.2 ≤ s + 1 := by
 unfold Sort.order2
 split
 ·exact ⟨hc, ha, Nat.le_refl _⟩
 ·exact ⟨ha, hc, Nat.le_succ _⟩
theorem median_lt {lt : El → El → Bool} {d : Array El} {a c e s n : Nat} (ha : a < n) (hc : c < n) (he : e < n) : (Sort.median lt d a c e s).1 < n ∧ (Sort.median lt d a c e s).2 ≤ s + 3 := by
 obtain ⟨a1, a2, a3⟩ := order2_lt (lt := lt) (d := d) (s := s) ha hc
 obtain ⟨b1, b2, b3⟩ := order2_lt (lt := lt) (d := d) (s := (Sort.order2 lt d a c s).2.2) a2 he
 obtain ⟨c1, c2, c3⟩ := order2_lt (lt := lt) (d := d) (s := (Sort.order2 lt d (Sort.order2 lt d a c s).2.1 e (Sort.order2 lt d a c s).2.2).2.2) a1 b1
 unfold Sort.median
 exact ⟨c2, Nat.le_trans c3 (by omega)⟩
theorem medianAdj_lt {lt : El → El → Bool} {d : Array El} {a s n : Nat} (ha : a + 1 < n) : (Sort.medianAdjacent lt d a s).1 < n ∧ (Sort.medianAdjacent lt d a s).2 ≤ s + 3 :=
 median_lt (by omega) (by omega) ha
theorem median_ok {g : FuncId} {z : El → El → Int} (cm : CmpQ g z) {h : Heap} {b id ver cap : Nat} {d : Array El} {T : List Cell} (k : PdAt h id ver d T) (a c e S sv s : Nat) (ha : a < d.size) (hc : c < d.size) (he : e < d.size) (hS : S < b) (hSi : ¬ S = id) (hs : h S = some (swB sv s)) (hsl : s ≤ 100000) :
  ACalls Tryz.prog 201 [winQ id ver cap d.size, IntV a, IntV c, IntV e, .one (.ptr S sv 0), cloV g] h b 0
   (fun r h' => r = IntV (Sort.median (ltZ z) d a c e s).1 ∧ h' = upd h S (swB sv (Sort.median (ltZ z) d a c e s).2)) := by
 refine ACalls.enter Tryz.func201 rfl (by simp [Tryz.ntmps201]) (fun ι w hn H => ?_)
 obtain ⟨a1, a2, a3⟩ := order2_lt (lt := ltZ z) (d := d) (s := s) ha hc
 obtain ⟨r1, hr1⟩ : ∃ r, Sort.order2 (ltZ z) d a c s = r := ⟨_, rfl⟩
 rw [hr1] at a1 a2 a3
 obtain ⟨b1, b2, b3⟩ := order2_lt (lt := ltZ z) (d := d) (s := r1.2.2) a2 he
 obtain ⟨r2, hr2⟩ : ∃ r, Sort.order2 (ltZ z) d r1.2.1 e r1.2.2 = r := ⟨_, rfl⟩
 rw [hr2] at b1 b2 b3
 obtain ⟨r3, hr3⟩ : ∃ r, Sort.order2 (ltZ z) d r1.1 r2.1 r2.2.2 = r := ⟨_, rfl⟩
 have hm : Sort.median (ltZ z) d a c e s = (r3.2.1, r3.2.2) := by unfold Sort.median; simp only [hr1, hr2, hr3]
 have k2 := order2_ok cm (b := b + 0) (cap := cap) k a c S sv s ha hc hS hSi hs (by omega)
 have k3 := order2_ok cm (b := b + 0) (cap := cap) (k.upd hSi (swB sv r1.2.2)) r1.2.1 e S sv r1.2.2 a2 he hS hSi (upd_same _ _ _) (by omega)
 have k4 := order2_ok cm (b := b + 0) (cap := cap) (k.upd hSi (swB sv r2.2.2)) r1.1 r2.1 S sv r2.2.2 a1 b1 hS hSi (upd_same _ _ _) (by omega)
 rw [hr1] at k2
 rw [hr2] at k3
 rw [hr3] at k4
 clear hr1 hr2 hr3
 refine Rk ?_
 refine Rg (fun E K hE hK => ?_)
 refine Us k2 body_219 ?_
 refine hK _ _ _ ?_; clear hE hK K E
 refine Rg (fun E K hE hK => ?_)
 refine Us k3 body_219 ?_
 refine hK _ _ _ ?_; clear hE hK K E
 refine Rg (fun E K hE hK => ?_)
 refine Us k4 body_219 ?_
 refine hK _ _ _ ?_; clear hE hK K E
 refine Rk ?_
 refine AWP.ret ?_
 refine Ev ?_
 refine Ends.turn hn H hS (blk := swB sv r3.2.2) (fun i hi => ?_) rfl (r0 := IntV r3.2.1) (by rw [show Tryz.f201.results.toList = [.tmp 12] from rfl]; exact Er) (.v _) ⟨by rw [hm], by rw [hm]⟩
 rfl
theorem medianAdjacent_ok {g : FuncId} {z : El → El → Int} (cm : CmpQ g z) {h : Heap} {b id ver cap : Nat} {d : Array El} {T : List Cell} (k : PdAt h id ver d T) (a S sv s : Nat) (ha : 1 ≤ a) (hc : a + 1 < d.size) (hS : S < b) (hSi : ¬ S = id) (hs : h S = some (swB sv s)) (hsl : s ≤ 100000) :
  ACalls Tryz.prog 200 [winQ id ver cap d.size, IntV a, .one (.ptr S sv 0), cloV g] h b 0
   (fun r h' => r = IntV (Sort.medianAdjacent (ltZ z) d a s).1 ∧ h' = upd h S (swB sv (Sort.medianAdjacent (ltZ z) d a s).2)) := by
 refine ACalls.enter Tryz.func200 rfl (by simp [Tryz.ntmps200]) (fun ι w hn H => ?_)
 have hz := k.size
 have k1 := median_ok cm (b := b + 0) (cap := cap) k (a - 1) a (a + 1) S sv s (by omega) (by omega) hc hS hSi hs hsl
 have e1 := w_sub1 (a := a) ha (by omega)
 have e2 := w_add1 (a := a) (by omega)
 refine Rk ?_
 refine Rgf (jn2 @e1 @e2) (fun E K hE hK => ?_)
 refine Us k1 body_201 ?_
 refine hK _ _ _ ?_; clear hE hK K E
 refine AWP.ret ?_
 refine Ev ?_
 exact Ends.turn hn H hS (blk := swB sv (Sort.medianAdjacent (ltZ z) d a s).2) (fun i hi => rfl) rfl (r0 := IntV (Sort.medianAdjacent (ltZ z) d a s).1) (by rw [show Tryz.f200.results.toList = [.tmp 8] from rfl]; exact Er) (.v _) ⟨rfl, rfl⟩
def hintN : Sort.Hint → Nat
 | .unknown => 0
 | .increasing => 1
 | .decreasing => 2
theorem w_quo4 {a : Nat} (h : a < 4611686018427387904) : IntKind.i64.wrap (Int.tdiv (a : Int) 4) = ((a / 4 : Nat) : Int) := by rw [Int.tdiv_eq_ediv_of_nonneg (by omega), wrap_i64 (by omega) (by omega)]; omega
theorem w_quo2 {a : Nat} (h : a < 4611686018427387904) : IntKind.i64.wrap (Int.tdiv (a : Int) 2) = ((a / 2 : Nat) : Int) := by rw [Int.tdiv_eq_ediv_of_nonneg (by omega), wrap_i64 (by omega) (by omega)]; omega
theorem w_quo8 {a : Nat} (h : a < 4611686018427387904) : IntKind.i64.wrap (Int.tdiv (a : Int) 8) = ((a / 8 : Nat) : Int) := by rw [Int.tdiv_eq_ediv_of_nonneg (by omega), wrap_i64 (by omega) (by omega)]; omega
def chM (h : Heap) (b id ver cap m : Nat) (g : FuncId) (i j k s : Nat) (st : St) : Prop :=
 st.n = 1 ∧ st.h b = some (swB 0 s) ∧ (∀ x, x < b → st.h x = h x) ∧ st.t 0 = winQ id ver cap m ∧ st.t 3 = cloV g ∧ st.t 11 = .one (.ptr b 0 0) ∧ st.t 12 = IntV i ∧ st.t 13 = IntV j ∧ st.t 14 = IntV k
def chR (lt : El → El → Bool) (d : Array El) (l i j k : Nat) : Nat × Nat :=
 if l ≥ 8 then
  if l ≥ 50 then
   Sort.median lt d (Sort.medianAdjacent lt d i 0).1 (Sort.medianAdjacent lt d j (Sort.medianAdjacent lt d i 0).2).1 (Sort.medianAdjacent lt d k (Sort.medianAdjacent lt d j (Sort.medianAdjacent lt d i 0).2).2).1 (Sort.medianAdjacent lt d k (Sort.medianAdjacent lt d j (Sort.medianAdjacent lt d i 0).2).2).2
  else Sort.median lt d i j k 0
 else (j, 0)
theorem choose_eq (lt : El → El → Bool) (d : Array El) (a e : Nat) : Sort.choosePivot lt d a e = ((chR lt d (e - a) (a + (e - a) / 4 * 1) (a + (e - a) / 4 * 2) (a + (e - a) / 4 * 3)).1, if (chR lt d (e - a) (a + (e - a) / 4 * 1) (a + (e - a) / 4 * 2) (a + (e - a) / 4 * 3)).2 = 0 then .increasing else if (chR lt d (e - a) (a + (e - a) / 4 * 1) (a + (e - a) / 4 * 2) (a + (e - a) / 4 * 3)).2 = 12 then .decreasing else .unknown) := rfl
theorem choosePivot_ok {g : FuncId} {z : El → El → Int} (cm : CmpQ g z) {h : Heap} {b id ver cap : Nat} {d : Array El} {T : List Cell} (k : PdAt h id ver d T) (hid : id < b) (a e : Nat) (hae : a < e) (he : e ≤ d.size) :
  ACalls Tryz.prog 162 [winQ id ver cap d.size, IntV a, IntV e, cloV g] h b 0
   (fun r h' => r = .tup [IntV (Sort.choosePivot (ltZ z) d a e).1, IntV (hintN (Sort.choosePivot (ltZ z) d a e).2)] ∧ h' = h) := by
 refine ACalls.enter Tryz.func162 rfl (by simp [Tryz.ntmps162]) (fun ι w hn H => ?_)
 have hz := k.size
 rw [choose_eq]
 obtain ⟨l, hl⟩ : ∃ l, e - a = l := ⟨_, rfl⟩
 rw [hl]
 obtain ⟨q, hq⟩ : ∃ q, l / 4 = q := ⟨_, rfl⟩
 rw [hq]
 have w1 : IntKind.i64.wrap ((e : Int) - (a : Int)) = (l : Int) := by rw [w_sub (by omega) (by omega)]; omega
 have w2 : IntKind.i64.wrap (Int.tdiv (l : Int) 4) = (q : Int) := by rw [w_quo4 (by omega)]; omega
 have m1 : IntKind.i64.wrap ((q : Int) * 1) = ((q * 1 : Nat) : Int) := by rw [wrap_i64 (by omega) (by omega)]; omega
 have m2 : IntKind.i64.wrap ((q : Int) * 2) = ((q * 2 : Nat) : Int) := by rw [wrap_i64 (by omega) (by omega)]; omega
 have m3 : IntKind.i64.wrap ((q : Int) * 3) = ((q * 3 : Nat) : Int) := by rw [wrap_i64 (by omega) (by omega)]; omega
 have p1 := w_add (a := a) (c := q * 1) (by omega)
 have p2 := w_add (a := a) (c := q * 2) (by omega)
 have p3 := w_add (a := a) (c := q * 3) (by omega)
 obtain ⟨i, hi⟩ : ∃ i, a + q * 1 = i := ⟨_, rfl⟩
 obtain ⟨j, hj⟩ : ∃ j, a + q * 2 = j := ⟨_, rfl⟩
 obtain ⟨c, hc⟩ : ∃ c, a + q * 3 = c := ⟨_, rfl⟩
 rw [hi] at p1 ⊢
 rw [hj] at p2 ⊢
 rw [hc] at p3 ⊢
 have hbi : ¬ b = id := by omega
 have h40 : ¬ (4 : Int) = 0 := by decide
 refine Rk ?_
 refine Rkf @w1 ?_
 refine Rk ?_
 refine Rkf (jn4 @w2 @m1 @p1 @h40) ?_
 refine Rkf (jn4 @w2 @m2 @p2 @h40) ?_
 refine Rkf (jn4 @w2 @m3 @p3 @h40) ?_
 have hil : a + q * 3 + q ≤ e := by omega
 obtain ⟨r, hr⟩ : ∃ r, chR (ltZ z) d l i j c = r := ⟨_, rfl⟩
 have hj2 : j < e := by omega
 rw [hr]
 refine AWP.mid (fun st => ∃ i' k', chM h b id ver cap d.size g i' r.1 k' r.2 st) ?_ ?_
 ·by_cases h8 : l ≥ 8
  ·have h8' : (l : Int) ≥ 8 := by omega
   refine Rkf @h8' ?_
   refine Bt ?_
   have kb : PdAt (upd h b (swB 0 0)) id ver d T := k.upd hbi _
   have hsb : upd h b (swB 0 0) b = some (swB 0 0) := upd_same _ _ _
   by_cases h50 : l ≥ 50
   ·have h50' : (l : Int) ≥ 50 := by omega
    have k1 := medianAdjacent_ok cm (b := b + 1) (cap := cap) kb i b 0 0 (by omega) (by omega) (by omega) hbi hsb (by omega)
    obtain ⟨a1, a2⟩ := medianAdj_lt (lt := ltZ z) (d := d) (a := i) (s := 0) (n := d.size) (by omega)
    obtain ⟨r1, hr1⟩ : ∃ r, Sort.medianAdjacent (ltZ z) d i 0 = r := ⟨_, rfl⟩
    rw [hr1] at k1 a1 a2
    have k2 := medianAdjacent_ok cm (b := b + 1) (cap := cap) (k.upd hbi (swB 0 r1.2)) j b 0 r1.2 (by omega) (by omega) (by omega) hbi (upd_same _ _ _) (by omega)
    obtain ⟨b1, b2⟩ := medianAdj_lt (lt := ltZ z) (d := d) (a := j) (s := r1.2) (n := d.size) (by omega)
    obtain ⟨r2, hr2⟩ : ∃ r, Sort.medianAdjacent (ltZ z) d j r1.2 = r := ⟨_, rfl⟩
    rw [hr2] at k2 b1 b2
    have k3 := medianAdjacent_ok cm (b := b + 1) (cap := cap) (k.upd hbi (swB 0 r2.2)) c b 0 r2.2 (by omega) (by omega) (by omega) hbi (upd_same _ _ _) (by omega)
    obtain ⟨c1, c2⟩ := medianAdj_lt (lt := ltZ z) (d := d) (a := c) (s := r2.2) (n := d.size) (by omega)
    obtain ⟨r3, hr3⟩ : ∃ r, Sort.medianAdjacent (ltZ z) d c r2.2 = r := ⟨_, rfl⟩
    rw [hr3] at k3 c1 c2
    have k4 := median_ok cm (b := b + 1) (cap := cap) (k.upd hbi (swB 0 r3.2)) r1.1 r2.1 r3.1 b 0 r3.2 a1 b1 c1 (by omega) hbi (upd_same _ _ _) (by omega)
    have hre : r = Sort.median (ltZ z) d r1.1 r2.1 r3.1 r3.2 := by
     rw [← hr]; unfold chR; rw [if_pos h8, if_pos h50]; simp only [hr1, hr2, hr3]
    rw [← hre] at k4
    clear hr1 hr2 hr3 hr hre
    refine AWP.seq ?_
    refine Rkf @h50' ?_
    refine Bt ?_
    refine Rg (fun E K hE hK => ?_)
    refine Us k1 body_200 ?_
    refine hK _ _ _ ?_; clear hE hK K E
    refine Rg (fun E K hE hK => ?_)
    refine Us k2 body_200 ?_
    refine hK _ _ _ ?_; clear hE hK K E
    refine Ra (fun E K hE hK => ?_)
    refine Us k3 body_200 ?_
    refine hK _ _ _ ?_; clear hE hK K E
    refine Ev ?_
    refine Ra (fun E K hE hK => ?_)
    refine Us k4 body_201 ?_
    refine hK _ _ _ ?_; clear hE hK K E
    exact ⟨r1.1, r3.1, rfl, by exact Er, fun x hx => by exact Ecf (show ¬ x = b by omega), by exact Er, by exact Er, by exact Er, by exact Er, by exact Er, by exact Er⟩
   ·have h50' : ¬ (l : Int) ≥ 50 := by omega
    have k4 := median_ok cm (b := b + 1) (cap := cap) kb i j c b 0 0 (by omega) (by omega) (by omega) (by omega) hbi hsb (by omega)
    have hre : r = Sort.median (ltZ z) d i j c 0 := by
     rw [← hr]; unfold chR; rw [if_pos h8, if_neg h50]
    rw [← hre] at k4
    clear hr hre
    refine AWP.seq ?_
    refine Rkf @h50' ?_
    refine Bs ?_
    refine Ra (fun E K hE hK => ?_)
    refine Us k4 body_201 ?_
    refine hK _ _ _ ?_; clear hE hK K E
    exact ⟨i, c, rfl, by exact Er, fun x hx => by exact Ecf (show ¬ x = b by omega), by exact Er, by exact Er, by exact Er, by exact Er, by exact Er, by exact Er⟩
  ·have h8' : ¬ (l : Int) ≥ 8 := by omega
   have hre : r = (j, 0) := by rw [← hr]; unfold chR; rw [if_neg h8]
   subst hre
   refine Rkf @h8' ?_
   refine Bs ?_
   exact ⟨i, c, rfl, by exact Er, fun x hx => by exact Ecf (show ¬ x = b by omega), by exact Er, by exact Er, by exact Er, by exact Er, by exact Er, by exact Er⟩
 ·rintro ⟨t, hh, n⟩ ⟨i', k', rfl, e1, eo, e0, e3, e11, e12, e13, e14⟩
  simp only at e1 eo e0 e3 e11 e12 e13 e14
  have fin : ∀ (t : Nat → AV) (m : Nat) (x : Sort.Hint), t 8 = IntV r.1 → t 9 = IntV m → m = hintN x → (x = if r.2 = 0 then .increasing else if r.2 = 12 then .decreasing else .unknown) →
    Am.Ends Tryz.prog ⟨Tryz.f162.ntmps, b, ι, h, w, x0⟩ Tryz.f162 0 (fun r' h' => r' = .tup [IntV r.1, IntV (hintN (if r.2 = 0 then .increasing else if r.2 = 12 then .decreasing else .unknown))] ∧ h' = h) ⟨t, hh, 1⟩ := by
   intro t m x h1 h2 h3 h4
   exact Ends.pure hn H eo (r0 := .tup [IntV r.1, IntV m]) (by rw [show Tryz.f162.results.toList = [.tmp 8, .tmp 9] from rfl]; exact Ecf (jn2 @h1 @h2)) (frz_tup2 (.v _) (.v _)) ⟨by rw [h3, h4], rfl⟩
  refine Rkf (jn2 @e1 @e11) ?_
  refine AWP.block ?_
  refine Ev ?_
  by_cases r0 : r.2 = 0
  ·have r0' : (r.2 : Int) = 0 := by omega
   refine Rkf @r0' ?_
   refine Bt ?_
   refine Rkf @e13 ?_
   refine AWP.ret ?_
   refine Ev ?_
   exact fin _ 1 .increasing (by exact Er) (by exact Er) rfl (by rw [if_pos r0])
  ·have r0' : ¬ (r.2 : Int) = 0 := by omega
   refine Rkf @r0' ?_
   refine Bf ?_
   by_cases r12 : r.2 = 12
   ·have r12' : (r.2 : Int) = 12 := by omega
    refine Rkf @r12' ?_
    refine Bt ?_
    refine Rkf @e13 ?_
    refine AWP.ret ?_
    refine Ev ?_
    exact fin _ 2 .decreasing (by exact Er) (by exact Er) rfl (by rw [if_neg r0, if_pos r12])
   ·have r12' : ¬ (r.2 : Int) = 12 := by omega
    refine Rkf @r12' ?_
    refine Bf ?_
    refine Rkf @e13 ?_
    refine AWP.ret ?_
    refine Ev ?_
    exact fin _ 0 .unknown (by exact Er) (by exact Er) rfl (by rw [if_neg r0, if_neg r12])
structure RwAt (h : Heap) (b id ver cap n : Nat) (T : List Cell) (d : Array El) (st : St) : Prop where
 size : d.size = n
 row : st.h id = some (rowQ ver d T)
 out : ∀ x, x < b → x ≠ id → st.h x = h x
 win : st.t 0 = winQ id ver cap n
theorem RwAt.cut {h : Heap} {b id ver cap n : Nat} {T : List Cell} {d : Array El} {t : Nat → AV} {hh : Heap} {m : Nat} (hid : id < b) (hT : lowCs 0 T = true) (hlow : ∀ id blk, h id = some blk → ∀ c ∈ blk.cells, lowC b c = true) (C : Ctx) (hC : C.b = b)
  (h1 : d.size = n) (h2 : hh id = some (rowQ ver d T)) (h3 : ∀ x, x < b → x ≠ id → hh x = h x) (h4 : t 0 = winQ id ver cap n) : RwAt h b id ver cap n T d ((⟨t, hh, m⟩ : St).cut C 0) := by
 subst hC
 refine ⟨h1, cutH_same (by omega) h2 (lowCs_app (lowCs_p _ _) (lowCs_of fun c hc => lowC_mono (Nat.zero_le _) (lowCs_mem hT c hc))), fun x hx hne => cutH_outS hlow (h3 x hx hne) hx, ?_⟩
 show cutV _ (t 0) = _
 rw [h4]; exact cutV_win (by omega)
theorem RwAt.ends {C : Ctx} {fn : Func} {R : AV → Heap → Prop} {id ver : Nat} {T : List Cell} {d : Array El} {t : Nat → AV} {hh : Heap} {m : Nat} {r : AV} (hid : id < C.b) (hT : lowCs 0 T = true) (hn : ∀ id, C.b ≤ id → C.h id = none) (H : HeapOK C.ι C.h C.b C.w)
  (h2 : hh id = some (rowQ ver d T)) (h3 : ∀ x, x < C.b → x ≠ id → hh x = C.h x) (hr : resA Tryz.prog hh t fn.results.toList = some r) (hf : frzV hh C.b r r) (hR : R r (upd C.h id (rowQ ver d T))) : Am.Ends Tryz.prog C fn 0 R ⟨t, hh, m⟩ :=
 Ends.turn hn H hid (upd_all h2 h3) (lowCs_app (lowCs_p _ _) (lowCs_of fun c hc => lowC_mono (Nat.zero_le _) (lowCs_mem hT c hc))) hr hf hR
theorem reverseRange_ok (g : FuncId) {h : Heap} {b id ver cap : Nat} {d0 : Array El} {T : List Cell} (k : PdAt h id ver d0 T) (hid : id < b) (a e : Nat) (hae : a < e) (he : e ≤ d0.size) :
  ACalls Tryz.prog 163 [winQ id ver cap d0.size, IntV a, IntV e, cloV g] h b 0
   (fun r h' => r = .tup [] ∧ h' = upd h id (rowQ ver (Sort.reverseRange d0 a e) T)) := by
 refine ACalls.enter Tryz.func163 rfl (by simp [Tryz.ntmps163]) (fun ι w hn H => ?_)
 have hlow := H.lowCells
 have hz := k.size
 have w1 := w_sub1 (a := e) (by omega) (by omega)
 obtain ⟨N, hN⟩ : ∃ N, d0.size = N := ⟨_, rfl⟩
 have hrow := k.row
 have hT := k.low
 rw [hN] at hz he ⊢
 refine Rk ?_
 refine Rkf @w1 ?_
 refine AWP.block ?_
 refine AWP.loopM 0 (fun m st => ∃ i j d, m = j - i ∧ j < e ∧ i < e ∧ Sort.reverseLoop i j d = Sort.reverseRange d0 a e ∧ RwAt h b id ver cap N T d st ∧ st.t 8 = IntV i ∧ st.t 9 = IntV j) (e - 1 - a) rfl ⟨a, e - 1, d0, rfl, by omega, hae, rfl, ⟨hN, hrow, fun _ _ _ => rfl, by exact Er⟩, by exact Er, by exact Er⟩ ?_
 rintro m ⟨t, hh, n⟩ ⟨i, j, d, rfl, hj, hi, hd, ⟨hs, hb, ho, e0⟩, e8, e9⟩ hn1
 simp only at hb ho e0 e8 e9 hn1
 subst hn1
 rw [Sort.reverseLoop] at hd
 refine AWP.seq ?_
 refine Rkf (jn2 @e8 @e9) ?_
 by_cases hlt : i < j
 ·have hlt' : (i : Int) < j := by omega
  rw [if_pos hlt] at hd
  refine Btf @hlt' ?_
  refine AWP.skip ?_
  refine Ev ?_
  refine AWP.block ?_
  have w2 := w_add1 (a := i) (by omega)
  have w3 := w_sub1 (a := j) (by omega) (by omega)
  rw [← hs] at e0 he
  have la : i < d.size := by omega
  have lb : j < d.size := by omega
  have la' : ((i : Nat) : Int) < d.size := by omega
  have lb' : ((j : Nat) : Int) < d.size := by omega
  have hpa := celQ_get d T i la
  have hpb := celQ_get d T j lb
  have hs1 := celQ_set d T i la d[j]!
  have hs2 := celQ_set (d.setIfInBounds i d[j]!) T j (by rw [Array.size_setIfInBounds]; exact lb) d[i]!
  rw [show (d.setIfInBounds i d[j]!).setIfInBounds j d[i]! = Sort.swp d i j from rfl] at hs2
  have hb' : hh id = some ⟨ver, celQ d T⟩ := hb
  have hlL := celQ_len d T
  have hlL2 := celQ_len (d.setIfInBounds i d[j]!) T
  rw [Array.size_setIfInBounds] at hlL2
  obtain ⟨vx, hvx⟩ : ∃ v, d[i]! = v := ⟨_, rfl⟩
  obtain ⟨vy, hvy⟩ : ∃ v, d[j]! = v := ⟨_, rfl⟩
  rw [hvx] at hpa hs2
  rw [hvy] at hpb hs1 hs2 hlL2
  generalize celQ (d.setIfInBounds i vy) T = L2 at hs1 hs2 hlL2
  generalize celQ d T = L1 at hpa hpb hs1 hb' hlL
  refine AWP.seq ?_
  refine AWP.rgD [23, 27] [] [id] mixed (by kernel_rfl) (by kernel_rfl) (fun K hK => ?_) (by kernel_rfl); simp -implicitDefEqProofs only [go_sem, ↓reduceIte, Nat.reduceEqDiff, Nat.reduceAdd, Nat.reduceLT, Nat.reduceLeDiff, reduceCtorEq, Int.toNat_natCast, e0, e8, e9, hb', hpa, hpb, la', lb', hs1, hs2]
  repeat (first | (refine ⟨⟨by omega, by omega⟩, ?_⟩) | (refine ⟨by omega, ?_⟩) | (refine ⟨sub_ers _ _, ?_⟩) | (refine ⟨sub_at _ hb', ?_⟩))
  refine hK _ _ _ ?_; clear hK K
  refine Ev ?_
  refine Rkf (jn2 @e8 @w2) ?_
  refine Raf (jn2 @e9 @w3) (fun E K hE hK => ?_); refine hK _ _ _ ?_; clear hE hK K E
  refine ⟨(j - 1) - (i + 1), by omega, i + 1, j - 1, _, rfl, by omega, by omega, hd, ?_, by exact Er, by exact Er⟩
  exact RwAt.cut hid hT hlow ⟨_, b, ι, h, w, x0⟩ rfl (by rw [swp_size, hs]) (by exact Er) (fun x hx hne => by refine Evf @hne ?_; exact ho x hx hne) (by exact Ecf (jn2 @e0 @hs))
 ·have hlt' : ¬ (i : Int) < j := by omega
  rw [if_neg hlt] at hd
  refine Bff @hlt' ?_
  refine AWP.exit ?_
  refine Ev ?_
  subst hd
  exact RwAt.ends (C := ⟨_, b, ι, h, w, x0⟩) hid hT hn H hb ho rfl (frz_tup0 _ _) ⟨rfl, rfl⟩
def FnAt (g : FuncId) (cs : List Cell) (f : El → Bool) (l : List El) (h : Heap) (b id : Nat) : Prop :=
 ∀ (h' : Heap) (b' : Nat), b ≤ b' → (∀ x, x < b → x ≠ id → h' x = h x) → ∀ d ∈ l, ACalls Tryz.prog g (elQ d :: cs.map .one) h' b' 0 (fun r h'' => r = BoolV (f d) ∧ h'' = h')
theorem indexO_ok (g : FuncId) (cs : List Cell) (f : El → Bool) {h : Heap} {b id ver cap : Nat} {d : Array El} {T : List Cell} (k : PdAt h id ver d T) (hid : id < b) (hg : bodyB Tryz.prog g = true) (hcs : lowCs b cs = true) (hc : FnAt g cs f d.toList h b id) :
  ACalls Tryz.prog 120 [winQ id ver cap d.size, .one (.clo (.func g) [] cs)] h b 0 (fun r h' => r = IntV (idxFrom f 0 d.toList) ∧ h' = h) := by
 refine ACalls.enter Tryz.func120 rfl (by simp [Tryz.ntmps120]) (fun ι w hn H => ?_)
 have hlow := H.lowCells
 have hrow := k.row
 have hz := k.size
 have fin : ∀ (t : Nat → AV) (v : Int), t 4 = IntV v → v = idxFrom f 0 d.toList → Am.Ends Tryz.prog ⟨Tryz.f120.ntmps, b, ι, h, w, x0⟩ Tryz.f120 0 (fun r h' => r = IntV (idxFrom f 0 d.toList) ∧ h' = h) ⟨t, h, 0⟩ := by
  intro t v ht hv
  exact Ends.pure hn H (fun _ _ => rfl) (r0 := IntV v) (by rw [show Tryz.f120.results.toList = [.tmp 4] from rfl]; exact Ecf @ht) (.v _) ⟨by rw [hv], rfl⟩
 refine Rk ?_
 refine AWP.seq ?_
 refine Rkf @hrow ?_
 refine AWP.block ?_
 refine AWP.loopUp 0 d.size (fun i st => st.h = h ∧ st.t 0 = winQ id ver cap d.size ∧ st.t 1 = .one (.clo (.func g) [] cs) ∧ st.t 7 = IntV d.size ∧ st.t 8 = IntV i ∧ idxFrom f 0 d.toList = idxFrom f i (d.toList.drop i)) 0 (Nat.zero_le _) rfl ⟨rfl, by exact Er, by exact Er, by exact Er, by exact Er, rfl⟩ ?_
 rintro i ⟨t, hh, n⟩ hi ⟨eh, e0, e1, e7, e8, hx⟩ hn1
 simp only at eh e0 e1 e7 e8 hn1
 subst hn1
 subst eh
 refine Rkf (jn2 @e7 @e8) ?_
 by_cases hlt : (i : Int) < d.size
 ·have hi2 : i < d.size := by omega
  have hi3 : i < d.toList.length := by simpa using hi2
  have hstep : idxFrom f i (d.toList.drop i) = if f d[i]! = true then (i : Int) else idxFrom f (i + 1) (d.toList.drop (i + 1)) := by
   rw [List.drop_eq_getElem_cons hi3, Array.getElem_toList, getElem!_pos d i hi2]; rfl
  have hpa := celQ_get d T i hi2
  have hm : d[i]! ∈ d.toList := by rw [getElem!_pos d i hi2]; exact Array.getElem_mem_toList hi2
  have hb' : hh id = some ⟨ver, celQ d T⟩ := hrow
  have hlL := celQ_len d T
  obtain ⟨v, hv⟩ : ∃ v, d[i]! = v := ⟨_, rfl⟩
  rw [hv] at hpa hm hstep
  generalize celQ d T = L at hpa hb' hlL
  have w1 := w_add1 (a := i) (by omega)
  refine AWP.seq ?_
  refine Btf @hlt ?_
  refine AWP.skip ?_
  refine Ev ?_
  refine AWP.seq ?_
  refine AWP.block ?_
  refine Rkf @e8 ?_
  refine Rgf (jn5 @e0 @e1 @hb' @hpa @hlt) (fun E K hE hK => ?_)
  repeat (refine ⟨by omega, ?_⟩)
  refine Us (hc _ _ (Nat.le_refl _) (fun _ _ _ => rfl) v hm) hg ?_
  refine hK _ _ _ ?_; clear hE hK K E
  cases hf : f v with
  | true =>
    refine Btf @hf ?_
    refine Rk ?_
    refine AWP.ret ?_
    refine Ev ?_
    refine fin _ i (by exact Er) ?_
    rw [hx, hstep, if_pos hf]
  | false =>
    refine Bff @hf ?_
    refine AWP.skip ?_
    refine Ev ?_
    refine Raf (jn2 @e8 @w1) (fun E K hE hK => ?_); refine hK _ _ _ ?_; clear hE hK K E
    refine ⟨hi2, cutH_id rfl (fun _ _ => rfl) hn hlow, by refine Evf @e0 ?_; exact cutV_win hid, by refine Evf @e1 ?_; exact cutV_clo hcs, by exact Ecf @e7, by exact Er, ?_⟩
    rw [hx, hstep, if_neg (by rw [hf]; simp)]
 ·refine AWP.seq ?_
  refine Bff @hlt ?_
  refine AWP.exit ?_
  refine Ev ?_
  refine Rk ?_
  refine AWP.ret ?_
  refine Ev ?_
  refine fin _ (-1) (by exact Er) ?_
  rw [hx, List.drop_of_length_le (by rw [Array.length_toList]; omega)]; rfl
theorem idxFrom_first' {α : Type} (f : α → Bool) : ∀ (l : List α) (i : Nat), (idxFrom f i l = -1 ∧ ∀ x ∈ l, f x = false) ∨ ∃ j, ∃ hj : j < l.length, idxFrom f i l = ((i + j : Nat) : Int) ∧ f l[j] = true ∧ ∀ x ∈ l.take j, f x = false
 | [], i => .inl ⟨by simp [idxFrom], by simp⟩
 | x :: l, i => by
   unfold idxFrom
   by_cases h : f x = true
   ·exact .inr ⟨0, by simp, by rw [if_pos h]; simp, by simpa using h, by simp⟩
   ·rw [if_neg h]
    have h' : f x = false := by simpa using h
    rcases idxFrom_first' f l (i + 1) with ⟨h1, h2⟩ | ⟨j, hj, h1, h2, h3⟩
    ·exact .inl ⟨h1, by simp only [List.mem_cons, forall_eq_or_imp]; exact ⟨h', h2⟩⟩
    ·refine .inr ⟨j + 1, by simp; omega, by rw [h1]; congr 1; omega, by simpa using h2, ?_⟩
     simp only [List.take_succ_cons, List.mem_cons, forall_eq_or_imp]; exact ⟨h', h3⟩
theorem take_set1' {α : Type} (l : List α) (k : Nat) (hk : k < l.length) (v : α) : List.take (k + 1) (l.set k v) = List.take k l ++ [v] := by
 simp [List.take_add_one, hk]
 rw [List.take_set]
 exact List.set_eq_of_length_le (by rw [List.length_take]; omega)
theorem cellsplit (cur : Array El) (T : List Cell) (k : Nat) : celQ cur T = ((cur.toList.take k).map encQ).flatten.map .p ++ (((cur.toList.drop k).map encQ).flatten.map .p ++ T) := by
 unfold celQ
 rw [← List.append_assoc, ← List.map_append, ← List.flatten_append, ← List.map_append, List.take_append_drop]
structure LeftAt (h : Heap) (id ver n cap : Nat) (T : List Cell) (l : List El) (r : AV) (h' : Heap) : Prop where
 ret : r = winQ id ver cap l.length
 mem : ∃ T', lowCs 0 T' = true ∧ T'.length + l.length * 1 = n * 1 + T.length ∧ h' = upd h id (rowB ver (l.map encQ) T')
theorem LeftAt.same {h : Heap} {id ver cap : Nat} {d : Array El} {T : List Cell} (k : PdAt h id ver d T) {r : AV} {h' : Heap} (hr : r = winQ id ver cap d.size) (hh : h' = upd h id (rowQ ver d T)) : LeftAt h id ver d.size cap T d.toList r h' := ⟨by rw [hr, Array.length_toList], T, k.low, by rw [show d.toList.length = d.size from Array.length_toList, Nat.add_comm], hh⟩
theorem deleteO_ok (g : FuncId) (cs : List Cell) (f : El → Bool) {h : Heap} {b id ver cap : Nat} {d : Array El} {T : List Cell} (k : PdAt h id ver d T) (hid : id < b) (hg : bodyB Tryz.prog g = true) (hcs : lowCs b cs = true) (hcap : d.size ≤ cap) (hc : FnAt g cs f d.toList h b id) :
  ACalls Tryz.prog 66 [winQ id ver cap d.size, .one (.clo (.func g) [] cs)] h b 0 (LeftAt h id ver d.size cap T (d.toList.filter fun x => !f x)) := by
 refine ACalls.enter Tryz.func66 rfl (by simp [Tryz.ntmps66]) (fun ι w hn H => ?_)
 have hlow := H.lowCells
 have hT := k.low
 have hz := k.size
 have hrow := k.row
 have k1 := indexO_ok g cs f (b := b + 0) (cap := cap) k hid hg hcs (fun h' b' hb hh x hx => hc h' b' (by omega) (fun y hy hne => hh y (by omega) hne) x hx)
 refine Rk ?_
 refine Rg (fun E K hE hK => ?_)
 refine Us k1 body_120 ?_
 refine hK _ _ _ ?_; clear hE hK K E
 refine AWP.seq ?_
 refine Rk ?_
 rcases idxFrom_first' f d.toList 0 with ⟨h1, h2⟩ | ⟨j, hj, h1, h2, h3⟩
 ·have he : d.toList.filter (fun d => !f d) = d.toList := List.filter_eq_self.2 (fun a ha => by rw [h2 a ha]; rfl)
  refine Btf @h1 ?_
  refine Rk ?_
  refine AWP.ret ?_
  refine Ev ?_
  rw [he]
  exact RwAt.ends (C := ⟨_, b, ι, h, w, x0⟩) (d := d) hid hT hn H hrow (fun _ _ _ => rfl) (r := winQ id ver cap d.size) (by rw [show Tryz.f66.results.toList = [.tmp 4] from rfl]; exact Er) (.one (.inl ⟨rfl, by simp [lowC, hid]⟩)) (LeftAt.same k rfl rfl)
 rw [Nat.zero_add] at h1
 rw [Array.length_toList] at hj
 have hw0 := w_add1 (a := j) (by omega)
 refine Bsf (jn2 @h1 (show ¬ (j : Int) = -1 by omega)) ?_
 refine AWP.seq ?_
 refine Rkf (jn2 @h1 @hw0) ?_
 refine AWP.block ?_
 obtain ⟨l, hl⟩ : ∃ l, d.toList = l := ⟨_, rfl⟩
 have hll : l.length = d.size := by rw [← hl, Array.length_toList]
 obtain ⟨N, hN⟩ : ∃ N, d.size = N := ⟨_, rfl⟩
 rw [hl] at hc
 simp only [hl] at h2 h3
 rw [hN] at hll hz hcap hj ⊢
 rw [hl]
 have hpre : (l.take (j + 1)).filter (fun d => !f d) = l.take j := by
  rw [List.take_add_one, List.filter_append, List.getElem?_eq_getElem (by omega)]
  have : (l.take j).filter (fun d => !f d) = l.take j := List.filter_eq_self.2 (fun a ha => by rw [h3 a ha]; rfl)
  rw [this]; simp [h2]
 refine AWP.loopM 0 (fun m st => ∃ i k cur, i ≤ N ∧ m = N - i ∧ k < i ∧ RwAt h b id ver cap N T cur st ∧ st.t 1 = .one (.clo (.func g) [] cs) ∧ st.t 5 = IntV k ∧ st.t 6 = IntV i ∧ cur.toList.take k = (l.take i).filter (fun d => !f d) ∧ cur.toList.drop i = l.drop i) (N - (j + 1)) rfl
  ⟨j + 1, j, d, by omega, rfl, Nat.lt_succ_self _, ⟨hN, hrow, fun _ _ _ => rfl, by exact Er⟩, by exact Er, by exact Erf @h1, by exact Er, by rw [hpre, hl], by rw [hl]⟩ ?_
 clear hpre h1 h2 h3 hl hN k1 hrow k hw0 hj
 rintro m ⟨t, hh, n⟩ ⟨i, k, cur, hi, rfl, hki, ⟨hs, hb, ho, e0⟩, e1, e5, e6, htk, hdr⟩ hn1
 simp only at hb ho e0 e1 e5 e6 hn1
 subst hn1
 refine AWP.seq ?_
 refine Rkf (jn3 @e0 @e6 @hb) ?_
 by_cases hlt : (i : Int) < (N : Nat)
 ·have hw1 := w_add1 (a := i) (by omega)
  have hw2 := w_add1 (a := k) (by omega)
  have hi2 : i < l.length := by omega
  have hci : cur.toList[i]? = some l[i] := by
   have := congrArg (fun x => x[0]?) hdr
   simp only [List.getElem?_drop, Nat.add_zero] at this
   rw [this, List.getElem?_eq_getElem hi2]
  have hcv : cur[i]! = l[i] := by
   rw [Array.getElem?_toList] at hci
   rw [getElem!_pos cur i (by omega)]
   rw [Array.getElem?_eq_getElem (by omega)] at hci
   exact Option.some.inj hci
  have hfi : (l.take (i + 1)).filter (fun d => !f d) = (l.take i).filter (fun d => !f d) ++ (if f l[i] = true then [] else [l[i]]) := by
   rw [List.take_add_one, List.filter_append, List.getElem?_eq_getElem hi2]
   cases hfd : f l[i] <;> simp [hfd]
  have hdr2 : cur.toList.drop (i + 1) = l.drop (i + 1) := by
   have := congrArg (List.drop 1) hdr
   rwa [List.drop_drop, List.drop_drop] at this
  have hpa := celQ_get cur T i (by omega)
  rw [hcv] at hpa
  obtain ⟨x, hx⟩ : ∃ x, l[i] = x := ⟨_, rfl⟩
  have hdm : x ∈ l := by rw [← hx]; exact List.getElem_mem hi2
  rw [hx] at hpa hfi
  have hset := celQ_set cur T k (by omega) x
  have hb' : hh id = some ⟨ver, celQ cur T⟩ := hb
  have hlL := celQ_len cur T
  have hcl := hc hh (b + 0) (by omega) ho x hdm
  generalize celQ cur T = L at hpa hb' hlL hset
  have hlk : (k : Int) < (cur.size : Nat) := by omega
  have hlt' : (i : Int) < (cur.size : Nat) := by omega
  rw [← hs] at e0
  refine Btf @hlt ?_
  refine AWP.skip ?_
  refine Ev ?_
  refine AWP.seq ?_
  refine AWP.block ?_
  refine Rgf (jn5 @e0 @e6 @hb' @hlt' @hpa) (fun E K hE hK => ?_)
  repeat (refine ⟨by omega, ?_⟩)
  refine hK _ _ _ ?_; clear hE hK K E
  refine Rgf @e1 (fun E K hE hK => ?_)
  refine Us hcl hg ?_
  cases hfd : f x
  ·rw [hfd, if_neg (by simp)] at hfi
   refine Evf @hfd ?_
   refine hK _ _ _ ?_; clear hE hK K E
   refine Bt ?_
   refine Rgf (jn5 @e0 @e5 @hb' @hlk @hset) (fun E K hE hK => ?_)
   repeat (first | (refine ⟨⟨by omega, by omega⟩, ?_⟩) | (refine ⟨by omega, ?_⟩))
   refine hK _ _ _ ?_; clear hE hK K E
   refine Raf (jn2 @e5 @hw2) (fun E K hE hK => ?_); refine hK _ _ _ ?_; clear hE hK K E
   refine Ev ?_
   refine Raf (jn2 @e6 @hw1) (fun E K hE hK => ?_); refine hK _ _ _ ?_; clear hE hK K E
   refine ⟨N - (i + 1), by omega, i + 1, k + 1, cur.setIfInBounds k x, by omega, rfl, by omega, RwAt.cut hid hT hlow ⟨_, b, ι, h, w, x0⟩ rfl (by rw [Array.size_setIfInBounds, hs]) (by exact Er) (fun y hy hne => by refine Evf @hne ?_; exact ho y hy hne) (by exact Ecf (jn2 @e0 @hs)), by refine Evf @e1 ?_; exact cutV_clo hcs, by exact Er, by exact Er, ?_, ?_⟩
   ·rw [hfi, ← htk, Array.toList_setIfInBounds, take_set1' _ _ (by rw [Array.length_toList]; omega)]
   ·rw [Array.toList_setIfInBounds, List.drop_set_of_lt (by omega), hdr2]
  ·rw [hfd, if_pos rfl, List.append_nil] at hfi
   refine Evf @hfd ?_
   refine hK _ _ _ ?_; clear hE hK K E
   refine Bs ?_
   refine Raf (jn2 @e6 @hw1) (fun E K hE hK => ?_); refine hK _ _ _ ?_; clear hE hK K E
   refine ⟨N - (i + 1), by omega, i + 1, k, cur, by omega, rfl, by omega, RwAt.cut hid hT hlow ⟨_, b, ι, h, w, x0⟩ rfl hs (by exact Erf @hb) ho (by exact Ecf (jn2 @e0 @hs)), by refine Evf @e1 ?_; exact cutV_clo hcs, by exact Ecf @e5, by exact Er, by rw [hfi, htk], hdr2⟩
 ·have hil : i = l.length := by omega
  subst hil
  rw [List.take_length] at htk
  have hsp := cellsplit cur T k
  have hkl : (cur.toList.take k).length = k := by rw [List.length_take, Array.length_toList]; omega
  have hb2 : hh id = some ⟨ver, celQ cur T⟩ := hb
  rw [hsp, htk] at hb2
  rw [htk] at hkl
  obtain ⟨l2, hl2⟩ : ∃ l2, l.filter (fun d => !f d) = l2 := ⟨_, rfl⟩
  rw [hl2] at hb2 hkl ⊢
  have hlen2 : ((l2.map encQ).flatten.map Cell.p).length = k * 1 := by rw [List.length_map, okEs_len (okEs_q _), List.length_map, hkl]
  generalize hT1 : ((cur.toList.drop k).map encQ).flatten.map Cell.p ++ T = T1 at hb2
  have hT1l : T1.length = (N - k) * 1 + T.length := by
   rw [← hT1, List.length_append, List.length_map, okEs_len (okEs_q _), List.length_map, List.length_drop, Array.length_toList, hs]
  have hT1low : lowCs 0 T1 = true := by rw [← hT1]; exact lowCs_app (lowCs_p _ _) hT
  generalize hA : (l2.map encQ).flatten.map Cell.p = A at hb2 hlen2
  clear hsp hb
  refine Bff @hlt ?_
  refine AWP.exit ?_
  refine Ev ?_
  refine Rgf (jn3 @e0 @e5 @hb2) (fun E K hE hK => ?_)
  refine ⟨⟨by omega, by omega⟩, ?_⟩
  have hne : ¬ cap = k := by omega
  rw [if_neg hne]
  refine BiR.of ?_
  refine BiK.clear (e := 9) (sz := 1) ty_slE_42 ty_tzero_9 rfl (by decide) hb2 rfl (by simp only [List.length_append, hlen2, hT1l]; omega) ?_
  rw [spl_tail hlen2.symm]
  refine Ev ?_
  refine hK _ _ _ ?_; clear hE hK K E
  have hrl : ((repl [Cell.p (PD.v (.string ByteArray.empty))] (N - k)).length : Nat) = N - k := by rw [repl_length]; simp
  refine Rgf (jn2 @e0 @e5) (fun E K hE hK => ?_)
  refine ⟨⟨by omega, by omega⟩, ?_⟩
  refine hK _ _ _ ?_; clear hE hK K E
  refine AWP.ret ?_
  refine Ev ?_
  rw [← hA]
  refine Ends.turn hn H hid (fun x hx => ?_) (lowCs_app (lowCs_p _ _) (lowCs_app (lowCs_repl rfl _) (lowCs_mono (Nat.zero_le _) (lowCs_drop hT1low _)))) (r0 := winQ id ver cap l2.length)
   (by rw [show Tryz.f66.results.toList = [.tmp 4] from rfl, hkl]; exact Er) (.one (.inl ⟨rfl, by simp [lowC, hid]⟩)) ⟨rfl, repl [Cell.p (PD.v (.string ByteArray.empty))] (N - k) ++ List.drop (repl [Cell.p (PD.v (.string ByteArray.empty))] (N - k)).length T1, lowCs_app (lowCs_repl rfl _) (lowCs_drop hT1low _), ?_, rfl⟩
  ·by_cases hx2 : x = id
   ·subst hx2; exact (upd_same _ _ _).trans (upd_same _ _ _).symm
   ·exact (upd_ne _ _ _ _ hx2).trans ((ho x hx hx2).trans (upd_ne _ _ _ _ hx2).symm)
  ·simp only [List.length_append, List.length_drop, hT1l, hkl, repl_length, List.length_cons, List.length_nil]
   omega
def cpt (d : Array El) : Nat → List El
 | 0 => []
 | m + 1 => if m > 0 ∧ d[m]! = d[m - 1]! then cpt d m else cpt d m ++ [d[m]!]
theorem cpt_len (d : Array El) : ∀ m, (cpt d m).length ≤ m ∧ (0 < m → 0 < (cpt d m).length)
 | 0 => ⟨Nat.le_refl _, fun h => absurd h (by decide)⟩
 | m + 1 => by
   obtain ⟨h1, h2⟩ := cpt_len d m
   unfold cpt
   split
   ·rename_i h; exact ⟨by omega, fun _ => h2 h.1⟩
   ·rw [List.length_append, List.length_singleton]; exact ⟨by omega, fun _ => by omega⟩
theorem toList_get (d : Array El) {i : Nat} (hi : i < d.size) : d.toList[i]? = some d[i]! := by
 rw [Array.getElem?_toList, getElem!_pos d i hi, Array.getElem?_eq_getElem hi]
theorem take_snoc (d : Array El) {m : Nat} (hm : m < d.size) : d.toList.take (m + 1) = d.toList.take m ++ [d[m]!] := by
 rw [List.take_add_one, toList_get d hm]; rfl
theorem cpt_all (d : Array El) : ∀ m, m ≤ d.size → (∀ i, 0 < i → i < m → d[i]! ≠ d[i - 1]!) → cpt d m = d.toList.take m
 | 0, _, _ => by simp [cpt]
 | m + 1, hm, h => by
   unfold cpt
   rw [if_neg (fun q => h m q.1 (Nat.lt_succ_self _) q.2), cpt_all d m (by omega) (fun i h0 h1 => h i h0 (by omega)), take_snoc d (by omega)]
theorem drop_get (d d0 : Array El) {j i : Nat} (h : d.toList.drop j = d0.toList.drop j) (hs : d.size = d0.size) (hj : j ≤ i) (hi : i < d.size) : d[i]! = d0[i]! := by
 have := congrArg (fun l => l[i - j]?) h
 simp only [List.getElem?_drop] at this
 rw [show j + (i - j) = i by omega, toList_get d hi, toList_get d0 (by omega)] at this
 exact Option.some.inj this
theorem compact_ok {h : Heap} {b id ver cap : Nat} {d : Array El} {T : List Cell} (k : PdAt h id ver d T) (hid : id < b) (hcap : d.size ≤ cap) :
  ACalls Tryz.prog 67 [winQ id ver cap d.size] h b 0 (LeftAt h id ver d.size cap T (cpt d d.size)) := by
 refine ACalls.enter Tryz.func67 rfl (by simp [Tryz.ntmps67]) (fun ι w hn H => ?_)
 have hlow := H.lowCells
 have hT := k.low
 have hz := k.size
 have hrow := k.row
 have same : ∀ (t : Nat → AV) (hh : Heap), cpt d d.size = d.toList → t 2 = winQ id ver cap d.size → hh id = some (rowQ ver d T) → (∀ x, x < b → x ≠ id → hh x = h x) → Am.Ends Tryz.prog ⟨Tryz.f67.ntmps, b, ι, h, w, x0⟩ Tryz.f67 0 (LeftAt h id ver d.size cap T (cpt d d.size)) ⟨t, hh, 0⟩ := by
  intro t hh h1 h2 h3 h4
  rw [h1]
  exact RwAt.ends (C := ⟨_, b, ι, h, w, x0⟩) (d := d) hid hT hn H h3 h4 (r := winQ id ver cap d.size) (by rw [show Tryz.f67.results.toList = [.tmp 2] from rfl]; exact Ecf @h2) (.one (.inl ⟨rfl, by simp [lowC, hid]⟩)) (LeftAt.same k rfl rfl)
 refine Rk ?_
 refine AWP.seq ?_
 by_cases hs2 : (d.size : Int) < 2
 ·refine Rkf (jn2 @hrow @hs2) ?_
  refine Bt ?_
  refine Rk ?_
  refine AWP.ret ?_
  refine Ev ?_
  exact same _ _ (by rw [cpt_all d d.size (Nat.le_refl _) (fun i h0 h1 => by omega), List.take_of_length_le (by rw [Array.length_toList]; exact Nat.le_refl _)]) (by exact Er) hrow (fun _ _ _ => rfl)
 refine Rkf (jn2 @hrow @hs2) ?_
 refine Bs ?_
 refine AWP.seq ?_
 refine Rk ?_
 refine AWP.block ?_
 refine AWP.loopM 0 (fun m st => ∃ i, m = d.size - i ∧ 0 < i ∧ i ≤ d.size ∧ (∀ j, 0 < j → j < i → d[j]! ≠ d[j - 1]!) ∧ RwAt h b id ver cap d.size T d st ∧ st.t 3 = IntV i) (d.size - 1) rfl ⟨1, rfl, Nat.one_pos, by omega, fun j h0 h1 => by omega, ⟨rfl, hrow, fun _ _ _ => rfl, by exact Er⟩, by exact Er⟩ ?_
 rintro m ⟨t, hh, n⟩ ⟨i, rfl, hi0, hid2, hd, ⟨_, hb, ho, e0⟩, e3⟩ hn1
 simp only at hb ho e0 e3 hn1
 subst hn1
 refine AWP.seq ?_
 refine Rkf (jn3 @e0 @e3 @hb) ?_
 by_cases hlt : (i : Int) < d.size
 ·have w1 := w_sub1 (a := i) (by omega) (by omega)
  have w2 := w_add1 (a := i) (by omega)
  refine Btf @hlt ?_
  refine AWP.skip ?_
  refine Ev ?_
  refine AWP.seq ?_
  refine AWP.block ?_
  have hpa := celQ_get d T i (by omega)
  have hpb := celQ_get d T (i - 1) (by omega)
  have hlt2 : ((i - 1 : Nat) : Int) < d.size := by omega
  have hb' : hh id = some ⟨ver, celQ d T⟩ := hb
  have hlL := celQ_len d T
  obtain ⟨vx, hvx⟩ : ∃ v, d[i]! = v := ⟨_, rfl⟩
  obtain ⟨vy, hvy⟩ : ∃ v, d[i - 1]! = v := ⟨_, rfl⟩
  rw [hvx] at hpa
  rw [hvy] at hpb
  generalize celQ d T = L1 at hpa hpb hb' hlL
  refine AWP.seqRegD [] [] [] mixed (by kernel_rfl) (by kernel_rfl) (fun K hK => .inl ?_) (by kernel_rfl); simp -implicitDefEqProofs only [go_sem, ↓reduceIte, Nat.reduceEqDiff, Nat.reduceAdd, Nat.reduceLT, Nat.reduceLeDiff, reduceCtorEq, Int.toNat_natCast, e0, e3, w1, hb', hpa, hpb, hlt, hlt2]
  repeat (refine ⟨by omega, ?_⟩)
  by_cases hq : EqC vx vy
  ·refine hK _ _ _ ?_; clear hK K
   refine Btf @hq ?_
   have heq : d[i]! = d[i - 1]! := by rw [hvx, hvy]; exact eqC_iff.1 hq
   clear hpa hpb hb' hlL hvx hvy hq
   refine Rgf (jn3 @e0 @e3 @hb) (fun E K hE hK => ?_)
   repeat (first | (refine ⟨⟨by omega, by omega⟩, ?_⟩) | (refine ⟨by omega, ?_⟩))
   rw [if_neg (show ¬ cap = i by omega)]
   refine hK _ _ _ ?_; clear hE hK K E
   refine AWP.seq ?_
   refine Rk ?_
   refine AWP.block ?_
   obtain ⟨N, hN⟩ : ∃ N, d.size = N := ⟨_, rfl⟩
   have hc1 : cpt d (i + 1) = d.toList.take i := by
    show (if i > 0 ∧ d[i]! = d[i - 1]! then cpt d i else cpt d i ++ [d[i]!]) = _
    rw [if_pos ⟨hi0, heq⟩, cpt_all d i (by omega) hd]
   rw [hN] at hcap hz hlt e0 same ⊢
   refine AWP.loopM 0 (fun m st => ∃ x kk cur, m = N - i - x ∧ 1 ≤ x ∧ x ≤ N - i ∧ 1 ≤ kk ∧ kk ≤ i + x - 1 ∧ cur.toList.take kk = cpt d (i + x) ∧ cur.toList.drop (i + x - 1) = d.toList.drop (i + x - 1) ∧ RwAt h b id ver cap N T cur st ∧ st.t 3 = IntV kk ∧ st.t 4 = .one (.win id ver (i * 1) (N - i) (cap - i)) ∧ st.t 5 = IntV x) (N - i - 1) rfl
    ⟨1, i, d, rfl, Nat.le_refl _, by omega, hi0, by omega, hc1.symm, rfl, ⟨hN, hb, ho, by exact Ecf @e0⟩, by exact Ecf @e3, by exact Er, by exact Er⟩ ?_
   clear hc1 hb ho e0 e3
   rintro m ⟨t, hh, n⟩ ⟨x, kk, cur, rfl, hx1, hxN, hk1, hkk, htk, hdr, ⟨hs, hb, ho, e0⟩, e3, e4, e5⟩ hn1
   simp only at hb ho e0 e3 e4 e5 hn1
   subst hn1
   refine AWP.seq ?_
   have hlen := celQ_len cur T
   refine Rgf (jn3 @e4 @e5 @hb) (fun E K hE hK => ?_)
   repeat (first | (refine ⟨⟨by omega, by omega⟩, ?_⟩) | (refine ⟨by omega, ?_⟩))
   refine hK _ _ _ ?_; clear hE hK K E
   by_cases hlx : (x : Int) < ((N - i : Nat) : Int)
   ·have w3 := w_sub1 (a := x) (by omega) (by omega)
    have w4 := w_add1 (a := x) (by omega)
    have w5 := w_add1 (a := kk) (by omega)
    have hgx : cur[i + x]! = d[i + x]! := drop_get cur d hdr (by rw [hs, hN]) (by omega) (by omega)
    have hgy : cur[i + (x - 1)]! = d[i + x - 1]! := by rw [show i + (x - 1) = i + x - 1 by omega]; exact drop_get cur d hdr (by rw [hs, hN]) (Nat.le_refl _) (by omega)
    have hpa := celQ_get cur T (i + x) (by omega)
    have hpb := celQ_get cur T (i + (x - 1)) (by omega)
    rw [hgx] at hpa
    rw [hgy] at hpb
    obtain ⟨vx, hvx⟩ : ∃ v, d[i + x]! = v := ⟨_, rfl⟩
    obtain ⟨vy, hvy⟩ : ∃ v, d[i + x - 1]! = v := ⟨_, rfl⟩
    rw [hvx] at hpa
    rw [hvy] at hpb
    rw [Nat.add_mul] at hpa hpb
    have hset := celQ_set cur T kk (by omega) vx
    have hlx2 : ((x - 1 : Nat) : Int) < ((N - i : Nat) : Int) := by omega
    have hkl : (kk : Int) < (N : Nat) := by omega
    have hcx : cpt d (i + x + 1) = if d[i + x]! = d[i + x - 1]! then cpt d (i + x) else cpt d (i + x) ++ [d[i + x]!] := by
     show (if i + x > 0 ∧ d[i + x]! = d[i + x - 1]! then cpt d (i + x) else cpt d (i + x) ++ [d[i + x]!]) = _
     by_cases q : d[i + x]! = d[i + x - 1]!
     ·rw [if_pos ⟨by omega, q⟩, if_pos q]
     ·rw [if_neg (fun r => q r.2), if_neg q]
    have hdr2 : cur.toList.drop (i + x) = d.toList.drop (i + x) := by
     have := congrArg (List.drop 1) hdr
     rwa [List.drop_drop, List.drop_drop, show i + x - 1 + 1 = i + x by omega] at this
    have hb' : hh id = some ⟨ver, celQ cur T⟩ := hb
    generalize celQ cur T = L1 at hpa hpb hb' hlen hset
    refine Btf @hlx ?_
    refine AWP.skip ?_
    refine Ev ?_
    refine AWP.seq ?_
    refine AWP.block ?_
    refine AWP.seqRegD [] [] [] mixed (by kernel_rfl) (by kernel_rfl) (fun K hK => .inl ?_) (by kernel_rfl); simp -implicitDefEqProofs only [go_sem, ↓reduceIte, Nat.reduceEqDiff, Nat.reduceAdd, Nat.reduceLT, Nat.reduceLeDiff, reduceCtorEq, Int.toNat_natCast, e4, e5, w3, hb', hpa, hpb, hlx, hlx2]
    repeat (refine ⟨by omega, ?_⟩)
    by_cases hq : EqC vx vy
    ·have he : d[i + x]! = d[i + x - 1]! := by rw [hvx, hvy]; exact eqC_iff.1 hq
     rw [if_pos he] at hcx
     refine hK _ _ _ ?_; clear hK K
     refine Bsf @hq ?_
     refine Raf (jn2 @e5 @w4) (fun E K hE hK => ?_); refine hK _ _ _ ?_; clear hE hK K E
     exact ⟨N - i - (x + 1), by omega, x + 1, kk, cur, rfl, by omega, by omega, hk1, by omega, by rw [htk, ← hcx]; rfl, hdr2, RwAt.cut hid hT hlow ⟨_, b, ι, h, w, x0⟩ rfl hs (by exact Erf @hb) ho (by exact Ecf @e0), by exact Ecf @e3, by refine Evf @e4 ?_; exact cutV_win hid, by exact Er⟩
    ·have he : ¬ d[i + x]! = d[i + x - 1]! := by rw [hvx, hvy]; exact fun q => hq (eqC_iff.2 q)
     rw [if_neg he] at hcx
     refine hK _ _ _ ?_; clear hK K
     refine Btf @hq ?_
     refine Rgf (jn3 @e0 @e3 (jn7 @e4 @e5 @hb' @hpa @hlx @hkl @hset)) (fun E K hE hK => ?_)
     repeat (first | (refine ⟨⟨by omega, by omega⟩, ?_⟩) | (refine ⟨by omega, ?_⟩))
     refine hK _ _ _ ?_; clear hE hK K E
     refine Raf (jn2 @e3 @w5) (fun E K hE hK => ?_); refine hK _ _ _ ?_; clear hE hK K E
     refine Ev ?_
     refine Raf (jn2 @e5 @w4) (fun E K hE hK => ?_); refine hK _ _ _ ?_; clear hE hK K E
     refine ⟨N - i - (x + 1), by omega, x + 1, kk + 1, cur.setIfInBounds kk vx, rfl, by omega, by omega, by omega, by omega, ?_, ?_, RwAt.cut hid hT hlow ⟨_, b, ι, h, w, x0⟩ rfl (by rw [Array.size_setIfInBounds, hs]) (by exact Er) (fun y hy hne => by refine Evf @hne ?_; exact ho y hy hne) (by exact Ecf @e0), by exact Er, by refine Evf @e4 ?_; exact cutV_win hid, by exact Er⟩
     ·rw [Array.toList_setIfInBounds, take_set1' _ _ (by rw [Array.length_toList]; omega), htk, show i + (x + 1) = i + x + 1 from rfl, hcx, hvx]
     ·rw [Array.toList_setIfInBounds, show i + (x + 1) - 1 = i + x by omega, List.drop_set_of_lt (by omega), hdr2]
   ·have hxe : i + x = N := by omega
    rw [hxe] at htk
    have hsp := cellsplit cur T kk
    have hkl : (cur.toList.take kk).length = kk := by rw [List.length_take, Array.length_toList]; omega
    have hb2 : hh id = some ⟨ver, celQ cur T⟩ := hb
    rw [hsp, htk] at hb2
    rw [htk] at hkl
    obtain ⟨l2, hl2⟩ : ∃ l2, cpt d N = l2 := ⟨_, rfl⟩
    rw [hl2] at hb2 hkl ⊢
    have hlen2 : ((l2.map encQ).flatten.map Cell.p).length = kk * 1 := by rw [List.length_map, okEs_len (okEs_q _), List.length_map, hkl]
    generalize hT1 : ((cur.toList.drop kk).map encQ).flatten.map Cell.p ++ T = T1 at hb2
    have hT1l : T1.length = (N - kk) * 1 + T.length := by
     rw [← hT1, List.length_append, List.length_map, okEs_len (okEs_q _), List.length_map, List.length_drop, Array.length_toList, hs]
    have hT1low : lowCs 0 T1 = true := by rw [← hT1]; exact lowCs_app (lowCs_p _ _) hT
    generalize hA : (l2.map encQ).flatten.map Cell.p = A at hb2 hlen2
    clear hsp hb
    refine Bff @hlx ?_
    refine AWP.exit ?_
    refine Ev ?_
    refine Rgf (jn3 @e0 @e3 @hb2) (fun E K hE hK => ?_)
    refine ⟨⟨by omega, by omega⟩, ?_⟩
    rw [if_neg (show ¬ cap = kk by omega)]
    refine BiR.of ?_
    refine BiK.clear (e := 9) (sz := 1) ty_slE_42 ty_tzero_9 rfl (by decide) hb2 rfl (by simp only [List.length_append, hlen2, hT1l]; omega) ?_
    rw [spl_tail hlen2.symm]
    refine Ev ?_
    refine hK _ _ _ ?_; clear hE hK K E
    refine Rgf (jn2 @e0 @e3) (fun E K hE hK => ?_)
    refine ⟨⟨by omega, by omega⟩, ?_⟩
    refine hK _ _ _ ?_; clear hE hK K E
    refine AWP.ret ?_
    refine Ev ?_
    rw [← hA]
    refine Ends.turn hn H hid (fun x hx => ?_) (lowCs_app (lowCs_p _ _) (lowCs_app (lowCs_repl rfl _) (lowCs_mono (Nat.zero_le _) (lowCs_drop hT1low _)))) (r0 := winQ id ver cap l2.length)
     (by rw [show Tryz.f67.results.toList = [.tmp 2] from rfl, hkl]; exact Er) (.one (.inl ⟨rfl, by simp [lowC, hid]⟩)) ⟨rfl, repl [Cell.p (PD.v (.string ByteArray.empty))] (N - kk) ++ List.drop (repl [Cell.p (PD.v (.string ByteArray.empty))] (N - kk)).length T1, lowCs_app (lowCs_repl rfl _) (lowCs_drop hT1low _), ?_, rfl⟩
    ·by_cases hx2 : x = id
     ·subst hx2; exact (upd_same _ _ _).trans (upd_same _ _ _).symm
     ·exact (upd_ne _ _ _ _ hx2).trans ((ho x hx hx2).trans (upd_ne _ _ _ _ hx2).symm)
    ·simp only [List.length_append, List.length_drop, hT1l, hkl, repl_length, List.length_cons, List.length_nil]
     omega
  ·refine hK _ _ _ ?_; clear hK K
   refine Bsf @hq ?_
   refine Raf (jn2 @e3 @w2) (fun E K hE hK => ?_); refine hK _ _ _ ?_; clear hE hK K E
   refine ⟨d.size - (i + 1), by omega, i + 1, rfl, by omega, by omega, fun j h0 h1 => ?_, RwAt.cut hid hT hlow ⟨_, b, ι, h, w, x0⟩ rfl rfl (by exact Erf @hb) ho (by exact Ecf @e0), by exact Er⟩
   by_cases hji : j = i
   ·subst hji; rw [hvx, hvy]; exact fun q => hq (eqC_iff.2 q)
   ·exact hd j h0 (by omega)
 ·refine Bff @hlt ?_
  refine AWP.exit ?_
  refine Ev ?_
  refine Rkf @e0 ?_
  refine AWP.ret ?_
  refine Ev ?_
  have hie : i = d.size := by omega
  subst hie
  exact same _ _ (by rw [cpt_all d d.size (Nat.le_refl _) hd, List.take_of_length_le (by rw [Array.length_toList]; exact Nat.le_refl _)]) (by exact Er) hb ho
theorem insInner_size (lt : El → El → Bool) (a : Nat) : ∀ (j : Nat) (d : Array El), (Sort.insInner lt a j d).size = d.size := by
 intro j
 induction j with
 | zero => intro d; rfl
 | succ j ih =>
   intro d
   unfold Sort.insInner
   split
   ·rw [ih, swp_size]
   ·rfl
theorem insertionSort_ok {g : FuncId} {z : El → El → Int} (cm : CmpQ g z) {h : Heap} {b id ver cap : Nat} {d0 : Array El} {T : List Cell} (k : PdAt h id ver d0 T) (hid : id < b) (a e : Nat) (hae : a ≤ e) (he : e ≤ d0.size) :
  ACalls Tryz.prog 159 [winQ id ver cap d0.size, IntV a, IntV e, cloV g] h b 0
   (fun r h' => r = .tup [] ∧ h' = upd h id (rowQ ver (Sort.insertionSort (ltZ z) d0 a e) T)) := by
 refine ACalls.enter Tryz.func159 rfl (by simp [Tryz.ntmps159]) (fun ι w hn H => ?_)
 have hlow := H.lowCells
 have hz := k.size
 obtain ⟨N, hN⟩ : ∃ N, d0.size = N := ⟨_, rfl⟩
 have hrow := k.row
 have hT := k.low
 rw [hN] at hz he ⊢
 have w1 := w_add1 (a := a) (by omega)
 unfold Sort.insertionSort
 obtain ⟨df, hdf⟩ : ∃ df, Sort.insOuter (ltZ z) a e (a + 1) d0 = df := ⟨_, rfl⟩
 rw [hdf]
 refine Rkf @w1 ?_
 refine AWP.block ?_
 refine AWP.loopM 0 (fun m st => ∃ i d, m = N + 1 - i ∧ a + 1 ≤ i ∧ i ≤ N + 1 ∧ Sort.insOuter (ltZ z) a e i d = df ∧ RwAt h b id ver cap N T d st ∧ st.t 1 = IntV a ∧ st.t 2 = IntV e ∧ st.t 3 = cloV g ∧ st.t 8 = IntV i) (N + 1 - (a + 1)) rfl ⟨a + 1, d0, rfl, Nat.le_refl _, by omega, hdf, ⟨hN, hrow, fun _ _ _ => rfl, by exact Er⟩, by exact Er, by exact Er, by exact Er, by exact Er⟩ ?_
 clear hdf
 rintro m ⟨t, hh, n⟩ ⟨i, d, rfl, hai, hiN, hd, ⟨hs, hb, ho, e0⟩, e1, e2, e3, e8⟩ hn1
 simp only at hb ho e0 e1 e2 e3 e8 hn1
 subst hn1
 rw [Sort.insOuter] at hd
 refine AWP.seq ?_
 by_cases hlt : i < e
 ·have hlt' : (i : Int) < e := by omega
  rw [if_pos hlt] at hd
  refine Rkf (jn3 @e2 @e8 @hlt') ?_
  refine Bt ?_
  refine AWP.skip ?_
  refine Ev ?_
  refine AWP.seq ?_
  refine AWP.block ?_
  refine Rkf @e8 ?_
  refine AWP.block ?_
  obtain ⟨di, hdi⟩ : ∃ di, Sort.insInner (ltZ z) a i d = di := ⟨_, rfl⟩
  have hsi := insInner_size (ltZ z) a i d
  rw [hdi] at hd hsi
  refine AWP.loopM 0 (fun m st => ∃ d, m ≤ i ∧ Sort.insInner (ltZ z) a m d = di ∧ RwAt h b id ver cap N T d st ∧ st.t 1 = IntV a ∧ st.t 2 = IntV e ∧ st.t 3 = cloV g ∧ st.t 8 = IntV i ∧ st.t 9 = IntV m) i rfl ⟨d, Nat.le_refl _, hdi, ⟨hs, hb, ho, by exact Ecf @e0⟩, by exact Ecf @e1, by exact Ecf @e2, by exact Ecf @e3, by exact Ecf @e8, by exact Er⟩ ?_
  clear hdi hsi hb ho e0 e1 e2 e3 e8 hs
  rintro m ⟨t, hh, n⟩ ⟨d, hm, hdi, ⟨hs, hb, ho, e0⟩, e1, e2, e3, e8, e9⟩ hn1
  simp only at hb ho e0 e1 e2 e3 e8 e9 hn1
  subst hn1
  have w2 := w_add1 (a := i) (by omega)
  refine AWP.seq ?_
  by_cases hgt : m > a
  ·cases m with
   | zero => omega
   | succ j =>
     have hgt' : ((a : Nat) : Int) < ((j + 1 : Nat) : Int) := by omega
     have w3 := w_sub1 (a := j + 1) (by omega) (by omega)
     rw [Nat.add_sub_cancel] at w3
     unfold Sort.insInner at hdi
     rw [← hs] at e0
     obtain ⟨X, hX⟩ : ∃ X, j + 1 = X := ⟨_, rfl⟩
     rw [hX] at hgt hgt' w3 e9 hdi
     have la : X < d.size := by omega
     have lb : j < d.size := by omega
     have la' : ((X : Nat) : Int) < d.size := by omega
     have lb' : ((j : Nat) : Int) < d.size := by omega
     have hpa := celQ_get d T X la
     have hpb := celQ_get d T j lb
     have hb' : hh id = some ⟨ver, celQ d T⟩ := hb
     have hlL := celQ_len d T
     obtain ⟨vx, hvx⟩ : ∃ v, d[X]! = v := ⟨_, rfl⟩
     obtain ⟨vy, hvy⟩ : ∃ v, d[j]! = v := ⟨_, rfl⟩
     rw [hvx] at hpa
     rw [hvy] at hpb
     generalize celQ d T = L1 at hpa hpb hb' hlL
     refine AWP.seqRegDG [] [] [] mixed (drawF_ok (by kernel_rfl)) (by kernel_rfl) (fun K hK => ?_); simp -implicitDefEqProofs only [go_sem, ↓reduceIte, Nat.reduceEqDiff, Nat.reduceAdd, Nat.reduceLT, Nat.reduceLeDiff, reduceCtorEq, Int.toNat_natCast, e0, e1, e3, e9, hgt', w3, hb', hpa, hpb, la', lb']
     repeat (first | (refine Gdf 21 (jn5 @e0 @e1 @e3 @e9 (jn7 @hgt' @w3 @hb' @hpa @hpb @la' @lb')) ?_) | (refine ⟨by omega, ?_⟩))
     refine Ud (cm.calls vx vy _ _) cm.body ?_
     by_cases hz1 : z vx vy < 0
     ·repeat (first | (refine Gdf 21 @hz1 ?_) | (refine ⟨by omega, ?_⟩))
      rw [if_pos (by rw [hvx, hvy]; simp [hgt, hz1])] at hdi
      refine hK _ _ _ ?_; clear hK K
      refine Bt ?_
      refine AWP.skip ?_
      refine Ev ?_
      refine AWP.seq ?_
      refine AWP.block ?_
      clear hpa hpb hlL hb'
      have la : X < d.size := by omega
      have lb : j < d.size := by omega
      have la' : ((X : Nat) : Int) < d.size := by omega
      have lb' : ((j : Nat) : Int) < d.size := by omega
      have hpa := celQ_get d T X la
      have hpb := celQ_get d T j lb
      have hs1 := celQ_set d T X la d[j]!
      have hs2 := celQ_set (d.setIfInBounds X d[j]!) T j (by rw [Array.size_setIfInBounds]; exact lb) d[X]!
      rw [show (d.setIfInBounds X d[j]!).setIfInBounds j d[X]! = Sort.swp d X j from rfl] at hs2
      have hb' : hh id = some ⟨ver, celQ d T⟩ := hb
      have hlL := celQ_len d T
      have hlL2 := celQ_len (d.setIfInBounds X d[j]!) T
      rw [Array.size_setIfInBounds] at hlL2
      obtain ⟨vx, hvx⟩ : ∃ v, d[X]! = v := ⟨_, rfl⟩
      obtain ⟨vy, hvy⟩ : ∃ v, d[j]! = v := ⟨_, rfl⟩
      rw [hvx] at hpa hs2
      rw [hvy] at hpb hs1 hs2 hlL2
      generalize celQ (d.setIfInBounds X vy) T = L2 at hs1 hs2 hlL2
      generalize celQ d T = L1 at hpa hpb hs1 hb' hlL
      refine AWP.rgD [46, 50] [] [id] mixed (by kernel_rfl) (by kernel_rfl) (fun K hK => ?_) (by kernel_rfl); simp -implicitDefEqProofs only [go_sem, ↓reduceIte, Nat.reduceEqDiff, Nat.reduceAdd, Nat.reduceLT, Nat.reduceLeDiff, reduceCtorEq, Int.toNat_natCast, e0, e3, e9, w3, hb', hpa, hpb, la', lb', hs1, hs2]
      repeat (first | (refine ⟨⟨by omega, by omega⟩, ?_⟩) | (refine ⟨by omega, ?_⟩) | (refine ⟨sub_ers _ _, ?_⟩) | (refine ⟨sub_at _ hb', ?_⟩))
      refine hK _ _ _ ?_; clear hK K
      refine Ev ?_
      refine Raf (jn2 @e9 @w3) (fun E K hE hK => ?_); refine hK _ _ _ ?_; clear hE hK K E
      refine ⟨j, by omega, _, by omega, hdi, ?_, by exact Ecf @e1, by exact Ecf @e2, by exact Ecf @e3, by exact Ecf @e8, by exact Er⟩
      exact RwAt.cut hid hT hlow ⟨_, b, ι, h, w, x0⟩ rfl (by rw [swp_size, hs]) (by exact Er) (fun x hx hne => by refine Evf @hne ?_; exact ho x hx hne) (by exact Ecf (jn2 @e0 @hs))
     ·repeat (first | (refine Gdf 21 @hz1 ?_) | (refine ⟨by omega, ?_⟩))
      rw [if_neg (by rw [hvx, hvy]; simp [hz1])] at hdi
      subst hdi
      refine hK _ _ _ ?_; clear hK K
      refine Bf ?_
      refine AWP.exit ?_
      refine Ev ?_
      refine Raf (jn2 @e8 @w2) (fun E K hE hK => ?_); refine hK _ _ _ ?_; clear hE hK K E
      refine ⟨N + 1 - (i + 1), by omega, i + 1, _, rfl, by omega, by omega, hd, ?_, by exact Ecf @e1, by exact Ecf @e2, by exact Ecf @e3, by exact Er⟩
      exact RwAt.cut hid hT hlow ⟨_, b, ι, h, w, x0⟩ rfl hs hb ho (by exact Ecf (jn2 @e0 @hs))
  ·have hgt' : ¬ ((a : Nat) : Int) < ((m : Nat) : Int) := by omega
   have hdi2 : d = di := by
    cases m with
    | zero => exact hdi
    | succ j => unfold Sort.insInner at hdi; rw [if_neg (by simp; omega)] at hdi; exact hdi
   subst hdi2
   refine AWP.seqRegDG [] [] [] mixed (drawF_ok (by kernel_rfl)) (by kernel_rfl) (fun K hK => ?_); simp -implicitDefEqProofs only [go_sem, ↓reduceIte, Nat.reduceEqDiff, Nat.reduceAdd, Nat.reduceLT, Nat.reduceLeDiff, reduceCtorEq, Int.toNat_natCast, e0, e1, e3, e9, hgt']
   repeat (first | (refine Gdf 21 @hgt' ?_) | (refine ⟨by omega, ?_⟩))
   refine hK _ _ _ ?_; clear hK K
   refine Bf ?_
   refine AWP.exit ?_
   refine Ev ?_
   refine Raf (jn2 @e8 @w2) (fun E K hE hK => ?_); refine hK _ _ _ ?_; clear hE hK K E
   refine ⟨N + 1 - (i + 1), by omega, i + 1, _, rfl, by omega, by omega, hd, ?_, by exact Ecf @e1, by exact Ecf @e2, by exact Ecf @e3, by exact Er⟩
   exact RwAt.cut hid hT hlow ⟨_, b, ι, h, w, x0⟩ rfl hs hb ho (by exact Ecf @e0)
 ·have hlt' : ¬ (i : Int) < e := by omega
  rw [if_neg hlt] at hd
  refine Rkf (jn3 @e2 @e8 @hlt') ?_
  refine Bf ?_
  refine AWP.exit ?_
  refine Ev ?_
  subst hd
  exact RwAt.ends (C := ⟨_, b, ι, h, w, x0⟩) hid hT hn H hb ho rfl (frz_tup0 _ _) ⟨rfl, rfl⟩
end Go.Proofs.YtihgnpboabpchaaGreatDoor.PdSt
