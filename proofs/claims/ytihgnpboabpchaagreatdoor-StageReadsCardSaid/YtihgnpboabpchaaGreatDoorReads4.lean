/-
  Part 4 of the proof of stageReads_card: steps of the machine, walks and plain laws; each holds under the conditions that it states.
-/
import Derived.Test.YtihgnpboabpchaaGreatDoorReads2
import Derived.Test.YtihgnpboabpchaaGreatDoorReads3
import Derived.IntWalk
import Derived.WalkKit
import Derived.RowKit
import Derived.Shelf.Abstract

namespace Go.Proofs.YtihgnpboabpchaaGreatDoor
set_option linter.unusedSimpArgs false
set_option linter.unusedVariables false
set_option linter.unnecessarySimpa false
open Go Am
set_option maxRecDepth 100000
theorem clone_oc_ok (es : List (List PD)) (ho : okEs 1 es) (h : Heap) (b : Nat) (hl : es.length ≤ 1000000000) :
    ACalls Tryz.prog 83 [.one (.p (.sl 1 es))] h b 1 (rowR 1 es h b) := by
  refine ACalls.enter Tryz.func83 rfl (by simp [Tryz.ntmps83]) (fun ι w hn H => ?_)
  refine Rk ?_
  refine AWP.seq ?_
  refine Rg (fun E K hE hK => ?_)
  refine EqlR.nil_sl rfl (.inl rfl) (fun g hg => ?_)
  refine Ev ?_
  refine hK _ _ _ ?_; clear hE hK K E
  cases g
  · refine AWP.ifF (by exact Ec) ?_
    refine AWP.skip ?_
    refine Ev ?_
    refine Rg (fun E K hE hK => ?_)
    refine BiR.of ?_
    refine BiK.append_own (e := 5) (sz := 1) (bytes := 1) (m := es.length) (xs := es.flatten.map .p) ty_slE_38 ty_tsz_5 ty_tzero_5 rfl ty_tby_5 ty_isIntT_38 (upd_same _ _ _) rfl rfl (by simp [srcA]) (okEs_flat ho _) (by omega) (by decide) (by omega) (fun cap k h1 h2 => ?_)
    refine Ev ?_
    refine hK _ _ _ ?_; clear hE hK K E
    refine AWP.ret ?_
    refine Ev ?_
    refine Ends.row (id := b) (blk := ⟨1, es.flatten.map .p ++ List.replicate k .junk⟩) hn H (lowEq_upd (Nat.le_refl _) (fun _ _ => rfl)) (Nat.le_refl _) (upd_same _ _ _) (lowCs_app (lowCs_p _ _) (lowCs_junk _ _))
      (by rw [show Tryz.f83.results.toList = [.tmp 2] from rfl]; exact Ec) (renV.win0 _ _ _ _) ⟨1, cap, List.replicate k .junk, by omega, by rw [List.length_replicate]; omega, lowCs_junk _ _, rfl, rfl⟩
  · have he := hg rfl
    subst he
    refine AWP.ifT (by exact Ec) ?_
    refine Rk ?_
    refine AWP.virt 2 (by exact Ec) ?_
    refine AWP.ret ?_
    refine Ev ?_
    refine Ends.row (id := b) (blk := ⟨0, []⟩) hn H (lowEq_upd (Nat.le_refl _) (fun _ _ => rfl)) (Nat.le_refl _) (upd_same _ _ _) rfl
      (by rw [show Tryz.f83.results.toList = [.tmp 2] from rfl]; exact Ec) (renV.win0 _ _ _ _) ⟨0, 0, [], Nat.le_refl _, rfl, rfl, rfl, rfl⟩
end Go.Proofs.YtihgnpboabpchaaGreatDoor
namespace Go.Proofs.YtihgnpboabpchaaGreatDoor
set_option linter.unusedSimpArgs false
set_option linter.unusedVariables false
set_option linter.unnecessarySimpa false
open Go Am
set_option maxRecDepth 100000
def bsedI (xs : List Ed) (tv : ByteArray) (g : FuncId) (h : Heap) (i j : Nat) (st : St) : Prop :=
  st.h = h ∧ st.t 0 = .one (.p (.sl 5 (xs.map encEd))) ∧ st.t 1 = .one (.p (.v (.string tv))) ∧ st.t 2 = .one (.clo (.func g) [] []) ∧ st.t 8 = IntV xs.length ∧ st.t 9 = IntV (i : Nat) ∧ st.t 10 = IntV (j : Nat)
theorem bsed_ok (xs : List Ed) (tv : ByteArray) (g : FuncId) (z : Ed → Int) (k : Nat) (hl : xs.length ≤ 1000000) (hg : bodyB Tryz.prog g = true) (hc : ∀ x ∈ xs, ∀ (h : Heap) (b : Nat), ACalls Tryz.prog g [.agg ((encEd x).map .p), .one (.p (.v (.string tv)))] h b 0 (fun r h' => r = IntV (z x) ∧ h' = h))
    (hk : k ≤ xs.length) (h1 : ∀ (j : Nat) (hj : j < xs.length), j < k → z xs[j] < 0) (h2 : ∀ (j : Nat) (hj : j < xs.length), k ≤ j → ¬ z xs[j] < 0) (f : Bool) (hf : f = true ↔ ∃ hk : k < xs.length, z xs[k] = 0) (h : Heap) (b : Nat) :
    ACalls Tryz.prog 111 [.one (.p (.sl 5 (xs.map encEd))), .one (.p (.v (.string tv))), .one (.clo (.func g) [] [])] h b 0 (fun r h' => r = .tup [IntV k, BoolV f] ∧ h' = h) := by
  refine ACalls.enter Tryz.func111 rfl (by simp [Tryz.ntmps111]) (fun ι w hn H => ?_)
  have hlm : (xs.map encEd).length = xs.length := List.length_map _
  refine Rk ?_
  refine Rkf @hlm ?_
  refine Rkf @hlm ?_
  refine AWP.seq ?_
  refine AWP.block ?_
  refine AWP.loopK 0 (fun m st => ∃ i j, i ≤ k ∧ k ≤ j ∧ j ≤ xs.length ∧ m = j - i ∧ bsedI xs tv g h i j st) xs.length rfl ⟨0, xs.length, Nat.zero_le _, hk, Nat.le_refl _, rfl, rfl, by exact Er, by exact Er, by exact Er, by exact Er, by exact Er, by exact Er⟩ ?_
  rintro m ⟨t, hh, n⟩ ⟨i, j, hik, hkj, hj, rfl, rfl, e0, e1, e2, e8, e9, e10⟩ hn1
  simp only at e0 e1 e2 e8 e9 e10 hn1
  subst hn1
  refine AWP.seq ?_
  refine Rkf (jn2 @e9 @e10) ?_
  by_cases hlt : (i : Int) < j
  · refine Btf @hlt ?_
    refine AWP.skip ?_
    refine Ev ?_
    refine AWP.block ?_
    obtain ⟨c, hcd⟩ : ∃ c, (i + j) / 2 = c := ⟨_, rfl⟩
    have hci : i ≤ c ∧ c < j := by omega
    have hsum : IntKind.i64.wrap ((i : Int) + j) = ((i + j : Nat) : Int) := by rw [wrap_i64 (by omega) (by omega)]; omega
    have hu : IntKind.u64.wrap ((i + j : Nat) : Int) = ((i + j : Nat) : Int) := IntWalk.u64_in _ ⟨by omega, by omega⟩
    have h10 : ¬ (1 : Int) < 0 := by decide
    have hfd : Int.fdiv ((i + j : Nat) : Int) (2 ^ min (Int.toNat 1) 64) = (c : Int) := by
      rw [← hcd, show ((2 : Int) ^ min (Int.toNat 1) 64) = 2 from rfl, Int.fdiv_eq_ediv_of_nonneg _ (by decide)]; omega
    have hback : IntKind.i64.wrap (c : Int) = (c : Int) := wrap_i64 (by omega) (by omega)
    have hcl : c < xs.length := by omega
    have hge : (xs.map encEd).getD c [] = encEd xs[c] := by simp [List.getD, hcl]
    have hz1 := h1 c hcl
    have hz2 := h2 c hcl
    obtain ⟨x, hx⟩ : ∃ x, xs[c] = x := ⟨_, rfl⟩
    rw [hx] at hge hz1 hz2
    have hxm : x ∈ xs := by rw [← hx]; exact List.getElem_mem hcl
    have hlt3 : (c : Int) < xs.length := by omega
    have hw1 : IntKind.i64.wrap ((c : Int) + 1) = ((c + 1 : Nat) : Int) := by rw [wrap_i64 (by omega) (by omega)]; rfl
    refine Rkf (jn7 @e9 @e10 @hsum @hu @h10 @hfd @hback) ?_
    refine Rgf (jn6 @e0 @e1 @e2 @hlm @hlt3 @hge) (fun E K hE hK => ?_)
    refine ⟨by omega, ?_⟩
    refine Us (hc x hxm _ _) hg ?_
    refine hK _ _ _ ?_; clear hE hK K E
    by_cases hneg : z x < 0
    · have hk2 : c < k := by
        rcases Nat.lt_or_ge c k with q | q
        · exact q
        · exact absurd hneg (hz2 q)
      refine Btf @hneg ?_
      refine Raf @hw1 (fun E K hE hK => ?_); refine hK _ _ _ ?_; clear hE hK K E
      exact ⟨rfl, j - (c + 1), by omega, c + 1, j, by omega, by omega, by omega, rfl, rfl, by exact Ecf @e0, by exact Ecf @e1, by exact Ecf @e2, by exact Ecf @e8, by exact Er, by exact Ecf @e10⟩
    · have hk2 : k ≤ c := by
        rcases Nat.lt_or_ge c k with q | q
        · exact absurd (hz1 q) hneg
        · exact q
      refine Bff @hneg ?_
      refine Ra (fun E K hE hK => ?_); refine hK _ _ _ ?_; clear hE hK K E
      exact ⟨rfl, c - i, by omega, i, c, by omega, by omega, by omega, rfl, rfl, by exact Ecf @e0, by exact Ecf @e1, by exact Ecf @e2, by exact Ecf @e8, by exact Ecf @e9, by exact Er⟩
  · refine Bff @hlt ?_
    refine AWP.exit ?_
    refine Ev ?_
    have hij : i = k := by omega
    subst hij
    have hfin : ∀ (t : Nat → AV) (n : Nat), t 6 = IntV i → t 7 = BoolV f → Am.Ends Tryz.prog ⟨Tryz.f111.ntmps, b, ι, hh, w, x0⟩ Tryz.f111 0 (fun r h' => r = .tup [IntV i, BoolV f] ∧ h' = hh) ⟨t, hh, n⟩ := by
      intro t n g6 g7
      exact Ends.pure hn H (fun _ _ => rfl) (r0 := .tup [IntV i, BoolV f]) (by rw [show Tryz.f111.results.toList = [.tmp 6, .tmp 7] from rfl]; exact Ecf (jn2 @g6 @g7)) (frz_tup2 (.v _) (.v _)) ⟨rfl, rfl⟩
    by_cases hkn : ((i : Nat) : Int) < xs.length
    · have hk2 : i < xs.length := by omega
      have hge : (xs.map encEd).getD i [] = encEd xs[i] := by simp [List.getD, hk2]
      obtain ⟨x, hx⟩ : ∃ x, xs[i] = x := ⟨_, rfl⟩
      have hd : f = decide (z x = 0) := by
        rw [Bool.eq_iff_iff, hf, decide_eq_true_eq]
        exact ⟨fun ⟨_, e⟩ => by rw [← hx]; exact e, fun e => ⟨hk2, by rw [hx]; exact e⟩⟩
      rw [hx] at hge
      have hxm : x ∈ xs := by rw [← hx]; exact List.getElem_mem hk2
      refine Rgf (jn2 @e0 (jn7 @e1 @e2 @e8 @e9 @hlm @hkn @hge)) (fun E K hE hK => ?_)
      refine ⟨by omega, ?_⟩
      refine Us (hc x hxm _ _) hg ?_
      refine hK _ _ _ ?_; clear hE hK K E
      refine AWP.ret ?_
      exact hfin _ _ (by exact Er) (by rw [hd]; exact Er)
    · have hd : f = false := by
        rw [← Bool.not_eq_true, hf]
        rintro ⟨q, _⟩; omega
      refine Rkf (jn7 @e0 @e1 @e2 @e8 @e9 @hlm @hkn) ?_
      refine AWP.ret ?_
      exact hfin _ _ (by exact Er) (by rw [hd]; exact Er)
end Go.Proofs.YtihgnpboabpchaaGreatDoor
namespace Go.Proofs.YtihgnpboabpchaaGreatDoor
set_option linter.unusedSimpArgs false
set_option linter.unusedVariables false
set_option linter.unnecessarySimpa false
open Go Am
set_option maxRecDepth 100000
def bsstI (xs : List S) (tv : ByteArray) (g : FuncId) (h : Heap) (i j : Nat) (st : St) : Prop :=
  st.h = h ∧ st.t 0 = .one (.p (.sl 1 (xs.map encS))) ∧ st.t 1 = .one (.p (.v (.string tv))) ∧ st.t 2 = .one (.clo (.func g) [] []) ∧ st.t 8 = IntV xs.length ∧ st.t 9 = IntV (i : Nat) ∧ st.t 10 = IntV (j : Nat)
theorem bsst_ok (xs : List S) (tv : ByteArray) (g : FuncId) (z : S → Int) (k : Nat) (hl : xs.length ≤ 1000000) (hg : bodyB Tryz.prog g = true) (hc : ∀ x ∈ xs, ∀ (h : Heap) (b : Nat), ACalls Tryz.prog g [.one (.p (.v (.string (mkS x)))), .one (.p (.v (.string tv)))] h b 0 (fun r h' => r = IntV (z x) ∧ h' = h))
    (hk : k ≤ xs.length) (h1 : ∀ (j : Nat) (hj : j < xs.length), j < k → z xs[j] < 0) (h2 : ∀ (j : Nat) (hj : j < xs.length), k ≤ j → ¬ z xs[j] < 0) (f : Bool) (hf : f = true ↔ ∃ hk : k < xs.length, z xs[k] = 0) (h : Heap) (b : Nat) :
    ACalls Tryz.prog 115 [.one (.p (.sl 1 (xs.map encS))), .one (.p (.v (.string tv))), .one (.clo (.func g) [] [])] h b 0 (fun r h' => r = .tup [IntV k, BoolV f] ∧ h' = h) := by
  refine ACalls.enter Tryz.func115 rfl (by simp [Tryz.ntmps115]) (fun ι w hn H => ?_)
  have hlm : (xs.map encS).length = xs.length := List.length_map _
  refine Rk ?_
  refine Rkf @hlm ?_
  refine Rkf @hlm ?_
  refine AWP.seq ?_
  refine AWP.block ?_
  refine AWP.loopK 0 (fun m st => ∃ i j, i ≤ k ∧ k ≤ j ∧ j ≤ xs.length ∧ m = j - i ∧ bsstI xs tv g h i j st) xs.length rfl ⟨0, xs.length, Nat.zero_le _, hk, Nat.le_refl _, rfl, rfl, by exact Er, by exact Er, by exact Er, by exact Er, by exact Er, by exact Er⟩ ?_
  rintro m ⟨t, hh, n⟩ ⟨i, j, hik, hkj, hj, rfl, rfl, e0, e1, e2, e8, e9, e10⟩ hn1
  simp only at e0 e1 e2 e8 e9 e10 hn1
  subst hn1
  refine AWP.seq ?_
  refine Rkf (jn2 @e9 @e10) ?_
  by_cases hlt : (i : Int) < j
  · refine Btf @hlt ?_
    refine AWP.skip ?_
    refine Ev ?_
    refine AWP.block ?_
    obtain ⟨c, hcd⟩ : ∃ c, (i + j) / 2 = c := ⟨_, rfl⟩
    have hci : i ≤ c ∧ c < j := by omega
    have hsum : IntKind.i64.wrap ((i : Int) + j) = ((i + j : Nat) : Int) := by rw [wrap_i64 (by omega) (by omega)]; omega
    have hu : IntKind.u64.wrap ((i + j : Nat) : Int) = ((i + j : Nat) : Int) := IntWalk.u64_in _ ⟨by omega, by omega⟩
    have h10 : ¬ (1 : Int) < 0 := by decide
    have hfd : Int.fdiv ((i + j : Nat) : Int) (2 ^ min (Int.toNat 1) 64) = (c : Int) := by
      rw [← hcd, show ((2 : Int) ^ min (Int.toNat 1) 64) = 2 from rfl, Int.fdiv_eq_ediv_of_nonneg _ (by decide)]; omega
    have hback : IntKind.i64.wrap (c : Int) = (c : Int) := wrap_i64 (by omega) (by omega)
    have hcl : c < xs.length := by omega
    have hge : (xs.map encS).getD c [] = encS xs[c] := by simp [List.getD, hcl]
    have hz1 := h1 c hcl
    have hz2 := h2 c hcl
    obtain ⟨x, hx⟩ : ∃ x, xs[c] = x := ⟨_, rfl⟩
    rw [hx] at hge hz1 hz2
    have hxm : x ∈ xs := by rw [← hx]; exact List.getElem_mem hcl
    have hlt3 : (c : Int) < xs.length := by omega
    have hw1 : IntKind.i64.wrap ((c : Int) + 1) = ((c + 1 : Nat) : Int) := by rw [wrap_i64 (by omega) (by omega)]; rfl
    refine Rkf (jn7 @e9 @e10 @hsum @hu @h10 @hfd @hback) ?_
    refine Rgf (jn6 @e0 @e1 @e2 @hlm @hlt3 @hge) (fun E K hE hK => ?_)
    refine ⟨by omega, ?_⟩
    refine Us (hc x hxm _ _) hg ?_
    refine hK _ _ _ ?_; clear hE hK K E
    by_cases hneg : z x < 0
    · have hk2 : c < k := by
        rcases Nat.lt_or_ge c k with q | q
        · exact q
        · exact absurd hneg (hz2 q)
      refine Btf @hneg ?_
      refine Raf @hw1 (fun E K hE hK => ?_); refine hK _ _ _ ?_; clear hE hK K E
      exact ⟨rfl, j - (c + 1), by omega, c + 1, j, by omega, by omega, by omega, rfl, rfl, by exact Ecf @e0, by exact Ecf @e1, by exact Ecf @e2, by exact Ecf @e8, by exact Er, by exact Ecf @e10⟩
    · have hk2 : k ≤ c := by
        rcases Nat.lt_or_ge c k with q | q
        · exact absurd (hz1 q) hneg
        · exact q
      refine Bff @hneg ?_
      refine Ra (fun E K hE hK => ?_); refine hK _ _ _ ?_; clear hE hK K E
      exact ⟨rfl, c - i, by omega, i, c, by omega, by omega, by omega, rfl, rfl, by exact Ecf @e0, by exact Ecf @e1, by exact Ecf @e2, by exact Ecf @e8, by exact Ecf @e9, by exact Er⟩
  · refine Bff @hlt ?_
    refine AWP.exit ?_
    refine Ev ?_
    have hij : i = k := by omega
    subst hij
    have hfin : ∀ (t : Nat → AV) (n : Nat), t 6 = IntV i → t 7 = BoolV f → Am.Ends Tryz.prog ⟨Tryz.f115.ntmps, b, ι, hh, w, x0⟩ Tryz.f115 0 (fun r h' => r = .tup [IntV i, BoolV f] ∧ h' = hh) ⟨t, hh, n⟩ := by
      intro t n g6 g7
      exact Ends.pure hn H (fun _ _ => rfl) (r0 := .tup [IntV i, BoolV f]) (by rw [show Tryz.f115.results.toList = [.tmp 6, .tmp 7] from rfl]; exact Ecf (jn2 @g6 @g7)) (frz_tup2 (.v _) (.v _)) ⟨rfl, rfl⟩
    by_cases hkn : ((i : Nat) : Int) < xs.length
    · have hk2 : i < xs.length := by omega
      have hge : (xs.map encS).getD i [] = encS xs[i] := by simp [List.getD, hk2]
      obtain ⟨x, hx⟩ : ∃ x, xs[i] = x := ⟨_, rfl⟩
      have hd : f = decide (z x = 0) := by
        rw [Bool.eq_iff_iff, hf, decide_eq_true_eq]
        exact ⟨fun ⟨_, e⟩ => by rw [← hx]; exact e, fun e => ⟨hk2, by rw [hx]; exact e⟩⟩
      rw [hx] at hge
      have hxm : x ∈ xs := by rw [← hx]; exact List.getElem_mem hk2
      refine Rgf (jn2 @e0 (jn7 @e1 @e2 @e8 @e9 @hlm @hkn @hge)) (fun E K hE hK => ?_)
      refine ⟨by omega, ?_⟩
      refine Us (hc x hxm _ _) hg ?_
      refine hK _ _ _ ?_; clear hE hK K E
      refine AWP.ret ?_
      exact hfin _ _ (by exact Er) (by rw [hd]; exact Er)
    · have hd : f = false := by
        rw [← Bool.not_eq_true, hf]
        rintro ⟨q, _⟩; omega
      refine Rkf (jn7 @e0 @e1 @e2 @e8 @e9 @hlm @hkn) ?_
      refine AWP.ret ?_
      exact hfin _ _ (by exact Er) (by rw [hd]; exact Er)
end Go.Proofs.YtihgnpboabpchaaGreatDoor
namespace Go.Proofs.YtihgnpboabpchaaGreatDoor
set_option linter.unusedSimpArgs false
set_option linter.unusedVariables false
set_option linter.unnecessarySimpa false
open Go Am
set_option maxRecDepth 100000
theorem clone_str_ok (es : List (List PD)) (ho : okEs 1 es) (h : Heap) (b : Nat) (hl : es.length ≤ 1000000000) :
    ACalls Tryz.prog 95 [.one (.p (.sl 1 es))] h b 1 (rowR 1 es h b) := by
  refine ACalls.enter Tryz.func95 rfl (by simp [Tryz.ntmps95]) (fun ι w hn H => ?_)
  refine Rk ?_
  refine AWP.seq ?_
  refine Rg (fun E K hE hK => ?_)
  refine EqlR.nil_sl rfl (.inl rfl) (fun g hg => ?_)
  refine Ev ?_
  refine hK _ _ _ ?_; clear hE hK K E
  cases g
  · refine AWP.ifF (by exact Ec) ?_
    refine AWP.skip ?_
    refine Ev ?_
    refine Rg (fun E K hE hK => ?_)
    refine BiR.of ?_
    refine BiK.append_own (e := 9) (sz := 1) (bytes := 16) (m := es.length) (xs := es.flatten.map .p) ty_slE_42 ty_tsz_9 ty_tzero_9 rfl ty_tby_9 ty_isIntT_42 (upd_same _ _ _) rfl rfl (by simp [srcA]) (okEs_flat ho _) (by omega) (by decide) (by omega) (fun cap k h1 h2 => ?_)
    refine Ev ?_
    refine hK _ _ _ ?_; clear hE hK K E
    refine AWP.ret ?_
    refine Ev ?_
    refine Ends.row (id := b) (blk := ⟨1, es.flatten.map .p ++ List.replicate k .junk⟩) hn H (lowEq_upd (Nat.le_refl _) (fun _ _ => rfl)) (Nat.le_refl _) (upd_same _ _ _) (lowCs_app (lowCs_p _ _) (lowCs_junk _ _))
      (by rw [show Tryz.f95.results.toList = [.tmp 2] from rfl]; exact Ec) (renV.win0 _ _ _ _) ⟨1, cap, List.replicate k .junk, by omega, by rw [List.length_replicate]; omega, lowCs_junk _ _, rfl, rfl⟩
  · have he := hg rfl
    subst he
    refine AWP.ifT (by exact Ec) ?_
    refine Rk ?_
    refine AWP.virt 2 (by exact Ec) ?_
    refine AWP.ret ?_
    refine Ev ?_
    refine Ends.row (id := b) (blk := ⟨0, []⟩) hn H (lowEq_upd (Nat.le_refl _) (fun _ _ => rfl)) (Nat.le_refl _) (upd_same _ _ _) rfl
      (by rw [show Tryz.f95.results.toList = [.tmp 2] from rfl]; exact Ec) (renV.win0 _ _ _ _) ⟨0, 0, [], Nat.le_refl _, rfl, rfl, rfl, rfl⟩
end Go.Proofs.YtihgnpboabpchaaGreatDoor

namespace Go.Proofs.YtihgnpboabpchaaGreatDoor
set_option linter.unusedSimpArgs false
set_option linter.unusedVariables false
set_option linter.unnecessarySimpa false
open Go Am
set_option maxRecDepth 100000
theorem over_str : isOver Tryz.prog 157 42 4 := fun args w =>
  run_callFunc_extern (fn := Tryz.f157) Tryz.func157 (by kernel_rfl) (by kernel_rfl) (by kernel_rfl) (e := Extern.SlicesOverlaps.overlaps #[42, 42] #[4]) (by kernel_rfl) args w
set_option maxHeartbeats 1600000 in
theorem insert_str_ok (es vs : List (List PD)) (ho : okEs 1 es) (hv : okEs 1 vs) (h : Heap) (b id ver cap i : Nat) (T : List Cell) (hid : id < b) (hb : h id = some (rowB ver es T)) (hT : lowCs 0 T = true) (hcap : es.length ≤ cap)
    (hc : cap * 1 = es.length * 1 + T.length) (hi : i ≤ es.length) (hl : es.length ≤ 1000000000) (hl2 : vs.length ≤ 1000000000) :
    ACalls Tryz.prog 116 [.one (.win id ver 0 es.length cap), IntV i, .one (.p (.sl 1 vs))] h b 0 (rowR 1 (es.take i ++ (vs ++ es.drop i)) h id) := by
  refine ACalls.enter Tryz.func116 rfl (by simp [Tryz.ntmps116]) (fun ι w hn H => ?_)
  have hlow := H.lowCells
  have hfl := okEs_len ho
  have hfv := okEs_len hv
  have htl : (es.take i).length = i := by rw [List.length_take]; omega
  have hdl : (es.drop i).length = es.length - i := by simp
  have hrl : (es.take i ++ (vs ++ es.drop i)).length = es.length + vs.length := by rw [List.length_append, List.length_append, htl, hdl]; omega
  have hsplit : es.flatten.map Cell.p = (es.take i).flatten.map .p ++ (es.drop i).flatten.map .p := by rw [← List.map_append, ← List.flatten_append, List.take_append_drop]
  refine Rk ?_
  refine Rgf @hb (fun E K hE hK => ?_)
  refine ⟨⟨by omega, by omega⟩, ?_⟩
  refine hK _ _ _ ?_; clear hE hK K E
  refine Rk ?_
  refine AWP.seq ?_
  refine Rk ?_
  by_cases hv0 : (vs.length : Int) = 0
  · refine AWP.ifT (by exact Ecf @hv0) ?_
    refine Rk ?_
    refine AWP.ret ?_
    refine Ev ?_
    have : vs = [] := List.eq_nil_of_length_eq_zero (by omega)
    subst this
    refine Ends.turn hn H hid (fun k _ => by rw [upd_self hb]) (lowCs_app (lowCs_p _ _) (lowCs_mono (Nat.zero_le _) hT)) (r0 := .one (.win id ver 0 es.length cap))
      (by rw [show Tryz.f116.results.toList = [.tmp 6] from rfl]; exact Ec) (.one (.inl ⟨rfl, by simp [lowC, hid]⟩)) ?_
    rw [List.nil_append, List.take_append_drop]
    exact ⟨ver, cap, T, hcap, hc, hT, rfl, rfl⟩
  refine AWP.ifF (by exact Ecf @hv0) ?_
  refine AWP.skip ?_
  refine Ev ?_
  refine Rkf @hb ?_
  refine AWP.seq ?_
  refine Rk ?_
  by_cases hie : (i : Int) = es.length
  · refine AWP.ifT (by exact Ecf @hie) ?_
    refine Rgf @hb (fun E K hE hK => ?_)
    have hie' : i = es.length := by omega
    subst hie'
    have htk : (rowB ver es T).cells.take (es.length * 1) = es.flatten.map .p := by rw [List.take_left' (by rw [List.length_map, hfl])]
    refine BiR.of ?_
    refine BiK.append_own (e := 9) (sz := 1) (bytes := 16) (m := vs.length) (xs := vs.flatten.map .p) ty_slE_42 ty_tsz_9 ty_tzero_9 rfl ty_tby_9 ty_isIntT_42 hb rfl (by simp only [List.length_append, List.length_map, hfl]; omega) (by simp [srcA]) (okEs_flat hv _) (by omega) (by decide) (by omega) (fun cap' k h1 h2 => ?_)
    rw [htk]
    refine Ev ?_
    refine hK _ _ _ ?_; clear hE hK K E
    refine AWP.ret ?_
    refine Ev ?_
    refine Ends.turn hn H hid (fun k _ => rfl) (lowCs_app (lowCs_p _ _) (lowCs_app (lowCs_p _ _) (lowCs_junk _ _))) (r0 := .one (.win id (ver + 1) 0 (es.length + vs.length) cap'))
      (by rw [show Tryz.f116.results.toList = [.tmp 6] from rfl]; exact Ec) (.one (.inl ⟨rfl, by simp [lowC, hid]⟩)) ?_
    have he : es.take es.length ++ (vs ++ es.drop es.length) = es ++ vs := by simp
    rw [he]
    refine ⟨ver + 1, cap', List.replicate k .junk, by rw [List.length_append]; omega, by rw [List.length_append, List.length_replicate]; omega, lowCs_junk _ _, by rw [List.length_append], ?_⟩
    rw [rowB_app]
  refine AWP.ifF (by exact Ecf @hie) ?_
  refine AWP.skip ?_
  refine Ev ?_
  refine AWP.seq ?_
  refine Rkf @hb ?_
  have hw1 : IntKind.i64.wrap ((es.length : Int) + vs.length) = ((es.length + vs.length : Nat) : Int) := by rw [wrap_i64 (by omega) (by omega)]; omega
  by_cases hgr : cap < es.length + vs.length
  · refine AWP.ifT (by exact Ecf (jn2 @hw1 (show (cap : Int) < ((es.length + vs.length : Nat) : Int) by omega))) ?_
    have hw2 : IntKind.i64.wrap (((es.length + vs.length : Nat) : Int) - i) = ((es.length + vs.length - i : Nat) : Int) := by rw [wrap_i64 (by omega) (by omega)]; omega
    refine Rgf (jn3 @hb @hw1 @hw2) (fun E K hE hK => ?_)
    refine ⟨⟨by omega, by omega⟩, ?_⟩
    have hsr := srcA_row (cap := cap) (off := 0) (m := i) 0 hb ho (by omega) (.inl (by omega))
    rw [List.drop_zero] at hsr
    have hne : ¬ id = b := by omega
    have hne' : ¬ b = id := by omega
    refine BiR.of ?_
    refine BiK.append_mk (e := 9) (sz := 1) (bytes := 16) (zs := [.string ByteArray.empty]) ty_slE_42 ty_tsz_9 ty_tzero_9 rfl ty_tby_9 ty_intK_3 (by exact Ecf @hb) hsr (by omega) (by omega) (by decide) (by omega) (fun cap' k h1 h2 => ?_)
    have hsum : i + (es.length + vs.length - i) = es.length + vs.length := by omega
    rw [hsum] at h1 h2
    rw [rowB_zeros, hsum]
    have hz0 : okEs 1 (List.replicate (es.length + vs.length - i) (List.map PD.v [.string ByteArray.empty])) := okEs_replicate rfl (by decide) _
    have hoz : okEs 1 (es.take i ++ List.replicate (es.length + vs.length - i) (List.map PD.v [.string ByteArray.empty])) := (ho.take i).append hz0
    have hozl : (es.take i ++ List.replicate (es.length + vs.length - i) (List.map PD.v [.string ByteArray.empty])).length = es.length + vs.length := by rw [List.length_append, htl, List.length_replicate]; omega
    have hoz1 : (es.take i ++ List.replicate (es.length + vs.length - i) (List.map PD.v [.string ByteArray.empty])).take i = es.take i := by rw [List.take_append_of_le_length (by omega), List.take_of_length_le (by omega)]
    have hfz := okEs_len hoz
    rw [hozl] at hfz
    generalize es.take i ++ List.replicate (es.length + vs.length - i) (List.map PD.v [.string ByteArray.empty]) = e1 at hoz hozl hfz hoz1 ⊢
    refine Ev ?_
    refine hK _ _ _ ?_; clear hE hK K E
    refine Rgf (show ¬ cap' = i by omega) (fun E K hE hK => ?_)
    refine ⟨⟨by omega, by omega⟩, ?_⟩
    refine BiR.of ?_
    refine BiK.copy (e := 9) (sz := 1) (m := vs.length) (xs := vs.flatten.map .p) ty_slE_42 ty_tsz_9 (upd_same _ _ _) rfl (by simp [srcA]) (fun c hc => okEs_flat hv _ c (List.mem_of_mem_take hc)) (by simp only [List.length_append, List.length_map, hfz, List.length_replicate]; omega) ?_
    rw [Nat.min_eq_left (by omega), List.take_of_length_le (by rw [List.length_map, hfv]; exact Nat.le_refl _), spl_els _ hoz hv (by omega) 0 rfl, hoz1]
    have hd2 : (es.take i ++ (vs ++ e1.drop (i + vs.length))).length = es.length + vs.length := by rw [List.length_append, List.length_append, List.length_drop, htl, hozl]; omega
    have ho2 : okEs 1 (es.take i ++ (vs ++ e1.drop (i + vs.length))) := (ho.take i).append (hv.append (hoz.drop _))
    have ho2t : (es.take i ++ (vs ++ e1.drop (i + vs.length))).take (i + vs.length) = es.take i ++ vs := by
      rw [← List.append_assoc, List.take_append_of_le_length (by rw [List.length_append, htl]; omega), List.take_of_length_le (by rw [List.length_append, htl]; omega)]
    have hf2 := okEs_len ho2
    rw [hd2] at hf2
    generalize es.take i ++ (vs ++ e1.drop (i + vs.length)) = e2 at hd2 ho2 ho2t hf2 ⊢
    refine Ev ?_
    refine hK _ _ _ ?_; clear hE hK K E
    have hw3 : IntKind.i64.wrap ((i : Int) + vs.length) = ((i + vs.length : Nat) : Int) := by rw [wrap_i64 (by omega) (by omega)]; omega
    refine AWP.seqRegD [] [] [b] mixed (by kernel_rfl) (by kernel_rfl) (fun K hK => .inl ?_) (by kernel_rfl); simp -implicitDefEqProofs only [go_sem, ↓reduceIte, Nat.reduceEqDiff, Nat.reduceAdd, Nat.reduceLT, Nat.reduceLeDiff, reduceCtorEq, Int.toNat_natCast, hb, ers_lit, hw3, hne, hne', show ¬ cap' = i + vs.length by omega]
    refine ⟨⟨by omega, by omega⟩, ⟨by omega, by omega⟩, ?_⟩
    have hsrc := srcA_row (h := upd h b (rowB 0 e2 (List.replicate k .junk))) (cap := cap - i) (off := if cap = i then 0 else i * 1) (m := es.length - i) i (by rw [upd_ne _ _ _ _ hne]; exact hb) ho (by omega) (by
      by_cases hcj : cap = i
      · rw [if_pos hcj]; exact .inr ⟨by omega, rfl⟩
      · rw [if_neg hcj]; exact .inl rfl)
    rw [List.take_of_length_le (by simp : (es.drop i).length ≤ es.length - i)] at hsrc
    refine BiD.of ?_
    refine BiK.copy (e := 9) (sz := 1) (m := es.length - i) (xs := (es.drop i).flatten.map .p) ty_slE_42 ty_tsz_9 (upd_same _ _ _) rfl hsrc (fun c hc => okEs_flat (ho.drop i) _ c (List.mem_of_mem_take hc)) (by simp only [List.length_append, List.length_map, hf2, List.length_replicate]; omega) ?_
    rw [show es.length + vs.length - (i + vs.length) = es.length - i by omega, Nat.min_self, List.take_of_length_le (by rw [List.length_map, okEs_len (ho.drop i), hdl]; exact Nat.le_refl _), upd_upd, spl_els _ ho2 (ho.drop i) (by omega) 0 rfl, ho2t,
      show e2.drop (i + vs.length + (es.drop i).length) = [] from List.drop_of_length_le (by omega), List.append_nil, List.append_assoc]
    refine ⟨Sub.reupd (sub_ers _ b) (fun c e => ?_), ?_⟩
    · rw [ers_lit, if_pos rfl, upd_same] at e; injection e with e; subst e; exact ⟨rfl, rfl⟩
    generalize hE3 : es.take i ++ (vs ++ es.drop i) = e3 at hrl ⊢
    refine Ev ?_
    refine hK _ _ _ ?_; clear hK K
    refine Rk ?_
    refine AWP.ret ?_
    refine Ev ?_
    refine Ends.move hn H hid hb (fun k hk _ => upd_ne _ _ _ _ (Nat.ne_of_lt hk)) (Nat.le_refl _) (upd_same _ _ _) rfl (lowCs_app (lowCs_p _ _) (lowCs_junk _ _)) (off := 0) (len := es.length + vs.length) (cap := cap')
      (by rw [show Tryz.f116.results.toList = [.tmp 6] from rfl]; exact Ec) ?_
    subst hE3
    exact ⟨ver + 1, cap', List.replicate k .junk, by omega, by rw [List.length_replicate]; omega, lowCs_junk _ _, by rw [hrl], rfl⟩
  · refine AWP.ifF (by exact Ecf (jn2 @hw1 (show ¬ (cap : Int) < ((es.length + vs.length : Nat) : Int) by omega))) ?_
    refine AWP.skip ?_
    refine Ev ?_
    refine Rgf (jn2 @hb @hw1) (fun E K hE hK => ?_)
    refine ⟨⟨by omega, by omega⟩, ?_⟩
    refine hK _ _ _ ?_; clear hE hK K E
    have hw3 : IntKind.i64.wrap ((i : Int) + vs.length) = ((i + vs.length : Nat) : Int) := by rw [wrap_i64 (by omega) (by omega)]; omega
    refine AWP.seq ?_
    refine Rgf (jn2 @hb @hw3) (fun E K hE hK => ?_)
    refine ⟨⟨by omega, by omega⟩, ?_⟩
    refine CallR.ext (over_sw over_str ty_slE_42 ty_tsz_9 rfl (by exact Ecf @hb) (fun blk e hh => ?_) ?_)
    · rw [hb] at e; injection e with e; subst e
      have h0 := congrArg List.length hh
      simp only [List.length_append, List.length_map, hfl, List.length_nil] at h0
      omega
    refine Ev ?_
    refine hK _ _ _ ?_; clear hE hK K E
    refine AWP.ifT (by exact Ec) ?_
    have hcim : ¬ cap = i + vs.length := by omega
    have hci : ¬ cap = i := by omega
    refine AWP.seqRegD [] [] [id] mixed (by kernel_rfl) (by kernel_rfl) (fun K hK => .inl ?_) (by kernel_rfl); simp -implicitDefEqProofs only [go_sem, ↓reduceIte, Nat.reduceEqDiff, Nat.reduceAdd, Nat.reduceLT, Nat.reduceLeDiff, reduceCtorEq, Int.toNat_natCast, hb, ers_lit, hw3, hcim, hci]
    refine ⟨⟨by omega, by omega⟩, ⟨by omega, by omega⟩, ?_⟩
    obtain ⟨xs, hsrc, hxs⟩ := srcA_room (cap := cap - i) (off := i * 1) (m := es.length + vs.length - i) i hb ho (by omega) rfl (by omega) (by omega)
    have hmin : min (es.length + vs.length - i) (es.length + vs.length - (i + vs.length)) = es.length - i := by omega
    refine BiD.of ?_
    refine BiK.copy (e := 9) (sz := 1) ty_slE_42 ty_tsz_9 hb rfl hsrc (by rw [hmin, hxs]; exact okEs_flat (ho.drop i) _) (by simp only [List.length_append, List.length_map, hfl]; omega) ?_
    rw [hmin, hxs]
    refine ⟨(sub_ers h id).upd (fun c e => ?_), ?_⟩
    · rw [ers_lit, if_pos rfl, hb] at e; injection e with e; subst e; exact ⟨rfl, rfl⟩
    have hBl : ((es.drop i).flatten.map Cell.p).length = (es.length - i) * 1 := by rw [List.length_map, okEs_len (ho.drop i), hdl]
    have hVl : (vs.flatten.map Cell.p).length = vs.length * 1 := by rw [List.length_map, hfv]
    have hAl : ((es.take i).flatten.map Cell.p).length = i * 1 := by rw [List.length_map, okEs_len (ho.take i), htl]
    have hfin : spl (spl (es.flatten.map .p ++ T) ((i + vs.length) * 1) ((es.drop i).flatten.map .p)) (i * 1) (vs.flatten.map .p) = (es.take i ++ (vs ++ es.drop i)).flatten.map .p ++ T.drop (vs.length * 1) := by
      rw [hsplit, List.append_assoc, spl_ins hAl.symm (by rw [hAl, hVl]; omega) (by rw [hVl]; omega), hVl, List.flatten_append, List.map_append, List.flatten_append, List.map_append, List.append_assoc, List.append_assoc]
    have hc1l : (spl (es.flatten.map .p ++ T) ((i + vs.length) * 1) ((es.drop i).flatten.map .p)).length = es.length * 1 + T.length := by
      rw [spl_length (by rw [hBl, List.length_append, List.length_map, hfl]; omega), List.length_append, List.length_map, hfl]
    generalize spl (es.flatten.map .p ++ T) ((i + vs.length) * 1) ((es.drop i).flatten.map .p) = c1 at hfin hc1l ⊢
    refine Ev ?_
    refine hK _ _ _ ?_; clear hK K
    refine Rgf @hci (fun E K hE hK => ?_)
    refine ⟨⟨by omega, by omega⟩, ?_⟩
    refine BiR.of ?_
    refine BiK.copy (e := 9) (sz := 1) (m := vs.length) (xs := vs.flatten.map .p) ty_slE_42 ty_tsz_9 (upd_same _ _ _) rfl (by simp [srcA]) (fun c hc => okEs_flat hv _ c (List.mem_of_mem_take hc)) (by simp only [hc1l]; omega) ?_
    rw [Nat.min_eq_left (by omega), List.take_of_length_le (by rw [hVl]; exact Nat.le_refl _), upd_upd]
    simp only [hfin]
    generalize hE3 : es.take i ++ (vs ++ es.drop i) = e3 at hrl ⊢
    refine Ev ?_
    refine hK _ _ _ ?_; clear hE hK K E
    refine Rk ?_
    refine AWP.ret ?_
    refine Ev ?_
    refine Ends.turn hn H hid (fun _ _ => rfl) (lowCs_app (lowCs_p _ _) (lowCs_mono (Nat.zero_le _) (lowCs_drop hT _))) (r0 := .one (.win id ver 0 (es.length + vs.length) cap))
      (by rw [show Tryz.f116.results.toList = [.tmp 6] from rfl]; exact Ec) (.one (.inl ⟨rfl, by simp [lowC, hid]⟩)) ?_
    subst hE3
    exact ⟨ver, cap, T.drop (vs.length * 1), by omega, by rw [List.length_drop]; omega, lowCs_drop hT _, by rw [hrl], rfl⟩
end Go.Proofs.YtihgnpboabpchaaGreatDoor
namespace Go.Proofs.YtihgnpboabpchaaGreatDoor
set_option linter.unusedSimpArgs false
set_option linter.unusedVariables false
set_option linter.unnecessarySimpa false
open Go Am
set_option maxRecDepth 100000
theorem clone_ed_ok (es : List (List PD)) (ho : okEs 5 es) (h : Heap) (b : Nat) (hl : es.length ≤ 1000000000) :
    ACalls Tryz.prog 154 [.one (.p (.sl 5 es))] h b 1 (rowR 5 es h b) := by
  refine ACalls.enter Tryz.func154 rfl (by simp [Tryz.ntmps154]) (fun ι w hn H => ?_)
  refine Rk ?_
  refine AWP.seq ?_
  refine Rg (fun E K hE hK => ?_)
  refine EqlR.nil_sl rfl (.inl rfl) (fun g hg => ?_)
  refine Ev ?_
  refine hK _ _ _ ?_; clear hE hK K E
  cases g
  · refine AWP.ifF (by exact Ec) ?_
    refine AWP.skip ?_
    refine Ev ?_
    refine Rg (fun E K hE hK => ?_)
    refine BiR.of ?_
    refine BiK.append_own (e := 67) (sz := 5) (bytes := 72) (m := es.length) (xs := es.flatten.map .p) ty_slE_61 ty_tsz_67 ty_tzero_67 rfl ty_tby_67 ty_isIntT_61 (upd_same _ _ _) rfl rfl (by simp [srcA]) (okEs_flat ho _) (by omega) (by decide) (by omega) (fun cap k h1 h2 => ?_)
    refine Ev ?_
    refine hK _ _ _ ?_; clear hE hK K E
    refine AWP.ret ?_
    refine Ev ?_
    refine Ends.row (id := b) (blk := ⟨1, es.flatten.map .p ++ List.replicate k .junk⟩) hn H (lowEq_upd (Nat.le_refl _) (fun _ _ => rfl)) (Nat.le_refl _) (upd_same _ _ _) (lowCs_app (lowCs_p _ _) (lowCs_junk _ _))
      (by rw [show Tryz.f154.results.toList = [.tmp 2] from rfl]; exact Ec) (renV.win0 _ _ _ _) ⟨1, cap, List.replicate k .junk, by omega, by rw [List.length_replicate]; omega, lowCs_junk _ _, rfl, rfl⟩
  · have he := hg rfl
    subst he
    refine AWP.ifT (by exact Ec) ?_
    refine Rk ?_
    refine AWP.virt 2 (by exact Ec) ?_
    refine AWP.ret ?_
    refine Ev ?_
    refine Ends.row (id := b) (blk := ⟨0, []⟩) hn H (lowEq_upd (Nat.le_refl _) (fun _ _ => rfl)) (Nat.le_refl _) (upd_same _ _ _) rfl
      (by rw [show Tryz.f154.results.toList = [.tmp 2] from rfl]; exact Ec) (renV.win0 _ _ _ _) ⟨0, 0, [], Nat.le_refl _, rfl, rfl, rfl, rfl⟩
end Go.Proofs.YtihgnpboabpchaaGreatDoor
namespace Go.Proofs.YtihgnpboabpchaaGreatDoor
set_option linter.unusedSimpArgs false
set_option linter.unusedVariables false
set_option linter.unnecessarySimpa false
open Go Am
set_option maxRecDepth 100000
theorem over_ed : isOver Tryz.prog 181 61 4 := fun args w =>
  run_callFunc_extern (fn := Tryz.f181) Tryz.func181 (by kernel_rfl) (by kernel_rfl) (by kernel_rfl) (e := Extern.SlicesOverlaps.overlaps #[61, 61] #[4]) (by kernel_rfl) args w
set_option maxHeartbeats 1600000 in
theorem insert_ed_ok (es vs : List (List PD)) (ho : okEs 5 es) (hv : okEs 5 vs) (h : Heap) (b id ver cap i : Nat) (T : List Cell) (hid : id < b) (hb : h id = some (rowB ver es T)) (hT : lowCs 0 T = true) (hcap : es.length ≤ cap)
    (hc : cap * 5 = es.length * 5 + T.length) (hi : i ≤ es.length) (hl : es.length ≤ 1000000000) (hl2 : vs.length ≤ 1000000000) :
    ACalls Tryz.prog 135 [.one (.win id ver 0 es.length cap), IntV i, .one (.p (.sl 5 vs))] h b 0 (rowR 5 (es.take i ++ (vs ++ es.drop i)) h id) := by
  refine ACalls.enter Tryz.func135 rfl (by simp [Tryz.ntmps135]) (fun ι w hn H => ?_)
  have hlow := H.lowCells
  have hfl := okEs_len ho
  have hfv := okEs_len hv
  have htl : (es.take i).length = i := by rw [List.length_take]; omega
  have hdl : (es.drop i).length = es.length - i := by simp
  have hrl : (es.take i ++ (vs ++ es.drop i)).length = es.length + vs.length := by rw [List.length_append, List.length_append, htl, hdl]; omega
  have hsplit : es.flatten.map Cell.p = (es.take i).flatten.map .p ++ (es.drop i).flatten.map .p := by rw [← List.map_append, ← List.flatten_append, List.take_append_drop]
  refine Rk ?_
  refine Rgf @hb (fun E K hE hK => ?_)
  refine ⟨⟨by omega, by omega⟩, ?_⟩
  refine hK _ _ _ ?_; clear hE hK K E
  refine Rk ?_
  refine AWP.seq ?_
  refine Rk ?_
  by_cases hv0 : (vs.length : Int) = 0
  · refine AWP.ifT (by exact Ecf @hv0) ?_
    refine Rk ?_
    refine AWP.ret ?_
    refine Ev ?_
    have : vs = [] := List.eq_nil_of_length_eq_zero (by omega)
    subst this
    refine Ends.turn hn H hid (fun k _ => by rw [upd_self hb]) (lowCs_app (lowCs_p _ _) (lowCs_mono (Nat.zero_le _) hT)) (r0 := .one (.win id ver 0 es.length cap))
      (by rw [show Tryz.f135.results.toList = [.tmp 6] from rfl]; exact Ec) (.one (.inl ⟨rfl, by simp [lowC, hid]⟩)) ?_
    rw [List.nil_append, List.take_append_drop]
    exact ⟨ver, cap, T, hcap, hc, hT, rfl, rfl⟩
  refine AWP.ifF (by exact Ecf @hv0) ?_
  refine AWP.skip ?_
  refine Ev ?_
  refine Rkf @hb ?_
  refine AWP.seq ?_
  refine Rk ?_
  by_cases hie : (i : Int) = es.length
  · refine AWP.ifT (by exact Ecf @hie) ?_
    refine Rgf @hb (fun E K hE hK => ?_)
    have hie' : i = es.length := by omega
    subst hie'
    have htk : (rowB ver es T).cells.take (es.length * 5) = es.flatten.map .p := by rw [List.take_left' (by rw [List.length_map, hfl])]
    refine BiR.of ?_
    refine BiK.append_own (e := 67) (sz := 5) (bytes := 72) (m := vs.length) (xs := vs.flatten.map .p) ty_slE_61 ty_tsz_67 ty_tzero_67 rfl ty_tby_67 ty_isIntT_61 hb rfl (by simp only [List.length_append, List.length_map, hfl]; omega) (by simp [srcA]) (okEs_flat hv _) (by omega) (by decide) (by omega) (fun cap' k h1 h2 => ?_)
    rw [htk]
    refine Ev ?_
    refine hK _ _ _ ?_; clear hE hK K E
    refine AWP.ret ?_
    refine Ev ?_
    refine Ends.turn hn H hid (fun k _ => rfl) (lowCs_app (lowCs_p _ _) (lowCs_app (lowCs_p _ _) (lowCs_junk _ _))) (r0 := .one (.win id (ver + 1) 0 (es.length + vs.length) cap'))
      (by rw [show Tryz.f135.results.toList = [.tmp 6] from rfl]; exact Ec) (.one (.inl ⟨rfl, by simp [lowC, hid]⟩)) ?_
    have he : es.take es.length ++ (vs ++ es.drop es.length) = es ++ vs := by simp
    rw [he]
    refine ⟨ver + 1, cap', List.replicate k .junk, by rw [List.length_append]; omega, by rw [List.length_append, List.length_replicate]; omega, lowCs_junk _ _, by rw [List.length_append], ?_⟩
    rw [rowB_app]
  refine AWP.ifF (by exact Ecf @hie) ?_
  refine AWP.skip ?_
  refine Ev ?_
  refine AWP.seq ?_
  refine Rkf @hb ?_
  have hw1 : IntKind.i64.wrap ((es.length : Int) + vs.length) = ((es.length + vs.length : Nat) : Int) := by rw [wrap_i64 (by omega) (by omega)]; omega
  by_cases hgr : cap < es.length + vs.length
  · refine AWP.ifT (by exact Ecf (jn2 @hw1 (show (cap : Int) < ((es.length + vs.length : Nat) : Int) by omega))) ?_
    have hw2 : IntKind.i64.wrap (((es.length + vs.length : Nat) : Int) - i) = ((es.length + vs.length - i : Nat) : Int) := by rw [wrap_i64 (by omega) (by omega)]; omega
    refine Rgf (jn3 @hb @hw1 @hw2) (fun E K hE hK => ?_)
    refine ⟨⟨by omega, by omega⟩, ?_⟩
    have hsr := srcA_row (cap := cap) (off := 0) (m := i) 0 hb ho (by omega) (.inl (by omega))
    rw [List.drop_zero] at hsr
    have hne : ¬ id = b := by omega
    have hne' : ¬ b = id := by omega
    refine BiR.of ?_
    refine BiK.append_mk (e := 67) (sz := 5) (bytes := 72) (zs := [.string ByteArray.empty, .bool false, .float .f64 0, .string ByteArray.empty, .slice none 0 0]) ty_slE_61 ty_tsz_67 ty_tzero_67 rfl ty_tby_67 ty_intK_3 (by exact Ecf @hb) hsr (by omega) (by omega) (by decide) (by omega) (fun cap' k h1 h2 => ?_)
    have hsum : i + (es.length + vs.length - i) = es.length + vs.length := by omega
    rw [hsum] at h1 h2
    rw [rowB_zeros, hsum]
    have hz0 : okEs 5 (List.replicate (es.length + vs.length - i) (List.map PD.v [.string ByteArray.empty, .bool false, .float .f64 0, .string ByteArray.empty, .slice none 0 0])) := okEs_replicate rfl (by decide) _
    have hoz : okEs 5 (es.take i ++ List.replicate (es.length + vs.length - i) (List.map PD.v [.string ByteArray.empty, .bool false, .float .f64 0, .string ByteArray.empty, .slice none 0 0])) := (ho.take i).append hz0
    have hozl : (es.take i ++ List.replicate (es.length + vs.length - i) (List.map PD.v [.string ByteArray.empty, .bool false, .float .f64 0, .string ByteArray.empty, .slice none 0 0])).length = es.length + vs.length := by rw [List.length_append, htl, List.length_replicate]; omega
    have hoz1 : (es.take i ++ List.replicate (es.length + vs.length - i) (List.map PD.v [.string ByteArray.empty, .bool false, .float .f64 0, .string ByteArray.empty, .slice none 0 0])).take i = es.take i := by rw [List.take_append_of_le_length (by omega), List.take_of_length_le (by omega)]
    have hfz := okEs_len hoz
    rw [hozl] at hfz
    generalize es.take i ++ List.replicate (es.length + vs.length - i) (List.map PD.v [.string ByteArray.empty, .bool false, .float .f64 0, .string ByteArray.empty, .slice none 0 0]) = e1 at hoz hozl hfz hoz1 ⊢
    refine Ev ?_
    refine hK _ _ _ ?_; clear hE hK K E
    refine Rgf (show ¬ cap' = i by omega) (fun E K hE hK => ?_)
    refine ⟨⟨by omega, by omega⟩, ?_⟩
    refine BiR.of ?_
    refine BiK.copy (e := 67) (sz := 5) (m := vs.length) (xs := vs.flatten.map .p) ty_slE_61 ty_tsz_67 (upd_same _ _ _) rfl (by simp [srcA]) (fun c hc => okEs_flat hv _ c (List.mem_of_mem_take hc)) (by simp only [List.length_append, List.length_map, hfz, List.length_replicate]; omega) ?_
    rw [Nat.min_eq_left (by omega), List.take_of_length_le (by rw [List.length_map, hfv]; exact Nat.le_refl _), spl_els _ hoz hv (by omega) 0 rfl, hoz1]
    have hd2 : (es.take i ++ (vs ++ e1.drop (i + vs.length))).length = es.length + vs.length := by rw [List.length_append, List.length_append, List.length_drop, htl, hozl]; omega
    have ho2 : okEs 5 (es.take i ++ (vs ++ e1.drop (i + vs.length))) := (ho.take i).append (hv.append (hoz.drop _))
    have ho2t : (es.take i ++ (vs ++ e1.drop (i + vs.length))).take (i + vs.length) = es.take i ++ vs := by
      rw [← List.append_assoc, List.take_append_of_le_length (by rw [List.length_append, htl]; omega), List.take_of_length_le (by rw [List.length_append, htl]; omega)]
    have hf2 := okEs_len ho2
    rw [hd2] at hf2
    generalize es.take i ++ (vs ++ e1.drop (i + vs.length)) = e2 at hd2 ho2 ho2t hf2 ⊢
    refine Ev ?_
    refine hK _ _ _ ?_; clear hE hK K E
    have hw3 : IntKind.i64.wrap ((i : Int) + vs.length) = ((i + vs.length : Nat) : Int) := by rw [wrap_i64 (by omega) (by omega)]; omega
    refine AWP.seqRegD [] [] [b] mixed (by kernel_rfl) (by kernel_rfl) (fun K hK => .inl ?_) (by kernel_rfl); simp -implicitDefEqProofs only [go_sem, ↓reduceIte, Nat.reduceEqDiff, Nat.reduceAdd, Nat.reduceLT, Nat.reduceLeDiff, reduceCtorEq, Int.toNat_natCast, hb, ers_lit, hw3, hne, hne', show ¬ cap' = i + vs.length by omega]
    refine ⟨⟨by omega, by omega⟩, ⟨by omega, by omega⟩, ?_⟩
    have hsrc := srcA_row (h := upd h b (rowB 0 e2 (List.replicate k .junk))) (cap := cap - i) (off := if cap = i then 0 else i * 5) (m := es.length - i) i (by rw [upd_ne _ _ _ _ hne]; exact hb) ho (by omega) (by
      by_cases hcj : cap = i
      · rw [if_pos hcj]; exact .inr ⟨by omega, rfl⟩
      · rw [if_neg hcj]; exact .inl rfl)
    rw [List.take_of_length_le (by simp : (es.drop i).length ≤ es.length - i)] at hsrc
    refine BiD.of ?_
    refine BiK.copy (e := 67) (sz := 5) (m := es.length - i) (xs := (es.drop i).flatten.map .p) ty_slE_61 ty_tsz_67 (upd_same _ _ _) rfl hsrc (fun c hc => okEs_flat (ho.drop i) _ c (List.mem_of_mem_take hc)) (by simp only [List.length_append, List.length_map, hf2, List.length_replicate]; omega) ?_
    rw [show es.length + vs.length - (i + vs.length) = es.length - i by omega, Nat.min_self, List.take_of_length_le (by rw [List.length_map, okEs_len (ho.drop i), hdl]; exact Nat.le_refl _), upd_upd, spl_els _ ho2 (ho.drop i) (by omega) 0 rfl, ho2t,
      show e2.drop (i + vs.length + (es.drop i).length) = [] from List.drop_of_length_le (by omega), List.append_nil, List.append_assoc]
    refine ⟨Sub.reupd (sub_ers _ b) (fun c e => ?_), ?_⟩
    · rw [ers_lit, if_pos rfl, upd_same] at e; injection e with e; subst e; exact ⟨rfl, rfl⟩
    generalize hE3 : es.take i ++ (vs ++ es.drop i) = e3 at hrl ⊢
    refine Ev ?_
    refine hK _ _ _ ?_; clear hK K
    refine Rk ?_
    refine AWP.ret ?_
    refine Ev ?_
    refine Ends.move hn H hid hb (fun k hk _ => upd_ne _ _ _ _ (Nat.ne_of_lt hk)) (Nat.le_refl _) (upd_same _ _ _) rfl (lowCs_app (lowCs_p _ _) (lowCs_junk _ _)) (off := 0) (len := es.length + vs.length) (cap := cap')
      (by rw [show Tryz.f135.results.toList = [.tmp 6] from rfl]; exact Ec) ?_
    subst hE3
    exact ⟨ver + 1, cap', List.replicate k .junk, by omega, by rw [List.length_replicate]; omega, lowCs_junk _ _, by rw [hrl], rfl⟩
  · refine AWP.ifF (by exact Ecf (jn2 @hw1 (show ¬ (cap : Int) < ((es.length + vs.length : Nat) : Int) by omega))) ?_
    refine AWP.skip ?_
    refine Ev ?_
    refine Rgf (jn2 @hb @hw1) (fun E K hE hK => ?_)
    refine ⟨⟨by omega, by omega⟩, ?_⟩
    refine hK _ _ _ ?_; clear hE hK K E
    have hw3 : IntKind.i64.wrap ((i : Int) + vs.length) = ((i + vs.length : Nat) : Int) := by rw [wrap_i64 (by omega) (by omega)]; omega
    refine AWP.seq ?_
    refine Rgf (jn2 @hb @hw3) (fun E K hE hK => ?_)
    refine ⟨⟨by omega, by omega⟩, ?_⟩
    refine CallR.ext (over_sw over_ed ty_slE_61 ty_tsz_67 rfl (by exact Ecf @hb) (fun blk e hh => ?_) ?_)
    · rw [hb] at e; injection e with e; subst e
      have h0 := congrArg List.length hh
      simp only [List.length_append, List.length_map, hfl, List.length_nil] at h0
      omega
    refine Ev ?_
    refine hK _ _ _ ?_; clear hE hK K E
    refine AWP.ifT (by exact Ec) ?_
    have hcim : ¬ cap = i + vs.length := by omega
    have hci : ¬ cap = i := by omega
    refine AWP.seqRegD [] [] [id] mixed (by kernel_rfl) (by kernel_rfl) (fun K hK => .inl ?_) (by kernel_rfl); simp -implicitDefEqProofs only [go_sem, ↓reduceIte, Nat.reduceEqDiff, Nat.reduceAdd, Nat.reduceLT, Nat.reduceLeDiff, reduceCtorEq, Int.toNat_natCast, hb, ers_lit, hw3, hcim, hci]
    refine ⟨⟨by omega, by omega⟩, ⟨by omega, by omega⟩, ?_⟩
    obtain ⟨xs, hsrc, hxs⟩ := srcA_room (cap := cap - i) (off := i * 5) (m := es.length + vs.length - i) i hb ho (by omega) rfl (by omega) (by omega)
    have hmin : min (es.length + vs.length - i) (es.length + vs.length - (i + vs.length)) = es.length - i := by omega
    refine BiD.of ?_
    refine BiK.copy (e := 67) (sz := 5) ty_slE_61 ty_tsz_67 hb rfl hsrc (by rw [hmin, hxs]; exact okEs_flat (ho.drop i) _) (by simp only [List.length_append, List.length_map, hfl]; omega) ?_
    rw [hmin, hxs]
    refine ⟨(sub_ers h id).upd (fun c e => ?_), ?_⟩
    · rw [ers_lit, if_pos rfl, hb] at e; injection e with e; subst e; exact ⟨rfl, rfl⟩
    have hBl : ((es.drop i).flatten.map Cell.p).length = (es.length - i) * 5 := by rw [List.length_map, okEs_len (ho.drop i), hdl]
    have hVl : (vs.flatten.map Cell.p).length = vs.length * 5 := by rw [List.length_map, hfv]
    have hAl : ((es.take i).flatten.map Cell.p).length = i * 5 := by rw [List.length_map, okEs_len (ho.take i), htl]
    have hfin : spl (spl (es.flatten.map .p ++ T) ((i + vs.length) * 5) ((es.drop i).flatten.map .p)) (i * 5) (vs.flatten.map .p) = (es.take i ++ (vs ++ es.drop i)).flatten.map .p ++ T.drop (vs.length * 5) := by
      rw [hsplit, List.append_assoc, spl_ins hAl.symm (by rw [hAl, hVl]; omega) (by rw [hVl]; omega), hVl, List.flatten_append, List.map_append, List.flatten_append, List.map_append, List.append_assoc, List.append_assoc]
    have hc1l : (spl (es.flatten.map .p ++ T) ((i + vs.length) * 5) ((es.drop i).flatten.map .p)).length = es.length * 5 + T.length := by
      rw [spl_length (by rw [hBl, List.length_append, List.length_map, hfl]; omega), List.length_append, List.length_map, hfl]
    generalize spl (es.flatten.map .p ++ T) ((i + vs.length) * 5) ((es.drop i).flatten.map .p) = c1 at hfin hc1l ⊢
    refine Ev ?_
    refine hK _ _ _ ?_; clear hK K
    refine Rgf @hci (fun E K hE hK => ?_)
    refine ⟨⟨by omega, by omega⟩, ?_⟩
    refine BiR.of ?_
    refine BiK.copy (e := 67) (sz := 5) (m := vs.length) (xs := vs.flatten.map .p) ty_slE_61 ty_tsz_67 (upd_same _ _ _) rfl (by simp [srcA]) (fun c hc => okEs_flat hv _ c (List.mem_of_mem_take hc)) (by simp only [hc1l]; omega) ?_
    rw [Nat.min_eq_left (by omega), List.take_of_length_le (by rw [hVl]; exact Nat.le_refl _), upd_upd]
    simp only [hfin]
    generalize hE3 : es.take i ++ (vs ++ es.drop i) = e3 at hrl ⊢
    refine Ev ?_
    refine hK _ _ _ ?_; clear hE hK K E
    refine Rk ?_
    refine AWP.ret ?_
    refine Ev ?_
    refine Ends.turn hn H hid (fun _ _ => rfl) (lowCs_app (lowCs_p _ _) (lowCs_mono (Nat.zero_le _) (lowCs_drop hT _))) (r0 := .one (.win id ver 0 (es.length + vs.length) cap))
      (by rw [show Tryz.f135.results.toList = [.tmp 6] from rfl]; exact Ec) (.one (.inl ⟨rfl, by simp [lowC, hid]⟩)) ?_
    subst hE3
    exact ⟨ver, cap, T.drop (vs.length * 5), by omega, by rw [List.length_drop]; omega, lowCs_drop hT _, by rw [hrl], rfl⟩
end Go.Proofs.YtihgnpboabpchaaGreatDoor
namespace Go.Proofs.YtihgnpboabpchaaGreatDoor
set_option linter.unusedSimpArgs false
set_option linter.unusedVariables false
set_option linter.unnecessarySimpa false
open Go Am
namespace Am
theorem AWP.genT {P : Program} {C : Ctx} {Q : Exit → St → Prop} {c : Code} {s : St} (M : St → Prop) (h : M s) (k : ∀ s, M s → AWP P C c Q s) : AWP P C c Q s := k s h
theorem Inv.lessH {C : Ctx} {ι : Nat → Nat} {t : Nat → AV} {h h1 : Heap} {n : Nat} {a : Act} {w : World} (I : Inv C ι ⟨t, h, n⟩ a w) (l : ∀ i b, h1 i = some b → h i = some b) : Inv C ι ⟨t, h1, n⟩ a w := by
  have M : Moves ι h (C.b + n) w ι h1 (C.b + n) w := .less l
  refine ⟨fun i hi b e => I.outer i hi b (l i b e), fun i hi b e ne => I.fresh i hi b (l i b e) ne, fun i hi => ?_, I.heap.less l, fun j => (I.tmps j).move M, I.ntmps, I.defers, I.keeps⟩
  show h1 i = none
  cases e : h1 i with
  | none => rfl
  | some b => have e2 := l i b e; have e3 : h i = none := I.bound i hi; rw [e3] at e2; cases e2
theorem AWP.cellAt {P : Program} {C : Ctx} {Q : Exit → St → Prop} {c : Code} {t : Nat → AV} {h h1 : Heap} {n : Nat} (G k : Nat) {gb : Blk} {x y : Cell} (l : ∀ i b, h1 i = some b → h i = some b) (hG : h1 G = some gb) (hk : gb.cells[k]? = some x)
    (hxy : ∀ (ι : Nat → Nat) (w : World) (v : Value), HeapOK ι h (C.b + n) w → RCell ι h (C.b + n) w x v → RCell ι h1 (C.b + n) w y v)
    (K : AWP P C c Q ⟨t, upd h1 G ⟨gb.ver, gb.cells.set k y⟩, n⟩) : AWP P C c Q ⟨t, h, n⟩ := by
  refine .weak (fun a w ι I => ⟨ι, ?_⟩) K
  have I' := I.lessH l
  generalize hh2 : upd h1 G ⟨gb.ver, gb.cells.set k y⟩ = h2
  have hk2 : k < gb.cells.length := (List.getElem?_eq_some_iff.1 hk).1
  have hne : gb.cells ≠ [] := fun e => by rw [e] at hk2; simp at hk2
  have hat : ∀ i b', h2 i = some b' → ∃ b, h1 i = some b ∧ b.ver = b'.ver ∧ b.cells.length = b'.cells.length ∧ ((i = G ∧ b = gb ∧ b' = ⟨gb.ver, gb.cells.set k y⟩) ∨ (i ≠ G ∧ b' = b)) := by
    intro i b' e
    subst hh2
    by_cases hi : i = G
    · subst hi; rw [upd_same] at e; injection e with e; subst e
      exact ⟨gb, hG, rfl, by simp, .inl ⟨rfl, rfl, rfl⟩⟩
    · rw [upd_ne _ _ _ _ hi] at e
      exact ⟨b', e, rfl, rfl, .inr ⟨hi, rfl⟩⟩
  have hnil : ∀ {b b' : Blk}, b.cells.length = b'.cells.length → b'.cells ≠ [] → b.cells ≠ [] := fun e ne hz => ne (List.eq_nil_of_length_eq_zero (by rw [← e, hz]; rfl))
  have M : Moves ι h1 (C.b + n) w ι h2 (C.b + n) w := by
    refine ⟨Nat.le_refl _, fun b s _ i b' e ne => ?_, fun _ _ _ => rfl, fun i _ b' e => ?_⟩
    · obtain ⟨b0, e0, _, hlen, _⟩ := hat i b' e
      exact s i b0 e0 (hnil hlen ne)
    · obtain ⟨b0, e0, hv, _, _⟩ := hat i b' e
      exact ⟨b0, e0, Nat.le_of_eq hv, fun _ => rfl⟩
  refine ⟨fun i hi b' e => ?_, fun i hi b' e ne => ?_, fun i hi => ?_, ⟨fun i b' e ne => ?_, fun i j bi bj ei ej ni nj heq => ?_⟩, fun j => (I'.tmps j).move M, I'.ntmps, I'.defers, I'.keeps⟩
  · obtain ⟨b0, e0, hv, hlen, _⟩ := hat i b' e
    obtain ⟨bb, h3, h4, h5⟩ := I'.outer i hi b0 e0
    refine ⟨bb, h3, hv ▸ h4, ?_⟩
    rcases h5 with ⟨h5, h6⟩ | ⟨h5, h6⟩
    · exact .inl ⟨h5.trans hlen, h6⟩
    · exact .inr ⟨hv ▸ h5, fun ne => h6 (hnil hlen ne)⟩
  · obtain ⟨b0, e0, _, hlen, _⟩ := hat i b' e
    exact I'.fresh i hi b0 e0 (hnil hlen ne)
  · show h2 i = none
    cases e : h2 i with
    | none => rfl
    | some b' =>
      obtain ⟨b0, e0, _⟩ := hat i b' e
      have e3 : h1 i = none := I'.bound i hi
      rw [e3] at e0; cases e0
  · obtain ⟨b0, e0, hv, hlen, h6⟩ := hat i b' e
    obtain ⟨cc, ty, g1, g2, g3⟩ := I'.heap.blk i b0 e0 (hnil hlen ne)
    refine ⟨cc, ty, g1, g2.trans hlen, fun j d u hd hu => ?_⟩
    rcases h6 with ⟨rfl, rfl, rfl⟩ | ⟨_, rfl⟩
    · simp only [List.getElem?_set] at hd
      by_cases hj : k = j
      · subst hj
        rw [if_pos rfl, if_pos hk2] at hd
        injection hd with hd
        subst hd
        obtain ⟨cc', ty', g1', g2', g3'⟩ := I.heap.blk i b0 (l _ _ e0) hne
        have : cc = cc' := by rw [g1] at g1'; injection g1' with g1'; injection g1'
        subst this
        exact (hxy ι w u I.heap (g3' k x u hk hu)).move M
      · rw [if_neg hj] at hd
        exact (g3 j d u hd hu).move M
    · exact (g3 j d u hd hu).move M
  · obtain ⟨b0, e0, _, hlen, _⟩ := hat i bi ei
    obtain ⟨b1, e1, _, hlen1, _⟩ := hat j bj ej
    exact I'.heap.inj i j b0 b1 e0 e1 (hnil hlen ni) (hnil hlen1 nj) heq
theorem AWP.frzAt {P : Program} {C : Ctx} {Q : Exit → St → Prop} {c : Code} {t : Nat → AV} {h : Heap} {n : Nat} (G k : Nat) {gb : Blk} {id ver len cap sz : Nat} {es : List (List PD)} (hG : h G = some gb) (hk : gb.cells[k]? = some (.win id ver 0 len cap)) (r : RowAt h id ver cap sz es) (ho : okEs sz es) (hl : es.length = len) (hne : G ≠ id)
    (K : AWP P C c Q ⟨t, upd (delH h id) G ⟨gb.ver, gb.cells.set k (.p (.sl sz es))⟩, n⟩) : AWP P C c Q ⟨t, h, n⟩ := by
  obtain ⟨T, h1, h2, h3⟩ := r
  exact AWP.cellAt G k (fun i b e => (delH_some e).2) (by rw [delH_ne _ _ _ hne]; exact hG) hk (fun ι w v H rc => frz_row H rc h1 rfl hl ho.len (row_cells ho ver T)) K
end Am
end Go.Proofs.YtihgnpboabpchaaGreatDoor
namespace Go.Proofs.YtihgnpboabpchaaGreatDoor.Am
set_option linter.unusedSimpArgs false
set_option linter.unusedVariables false
set_option linter.unnecessarySimpa false
open Go
section
variable {P : Program} {C : Ctx} {S : List Tmp} {V : List AV} {hS : Heap} {ops : Array Oper}
def cutK (P : Program) (C : Ctx) (S : List Tmp) (V : List AV) (ops : Array Oper) (k0 : Nat) (K : FinT) (t : Nat → AV) (h : Heap) (n : Nat) : Prop :=
  ∃ hS2, Sub hS2 h ∧ evD P C S V hS2 ops (opsAt ops (List.range' k0 (ops.size - k0))) t h n K
theorem evD_any2 (k0 : Nat) (hk0 : k0 ≤ ops.size) (hC : ∀ i j, k0 ≤ i → i < ops.size → j < k0 → waits ops ops.size i j = true) (hB : drawB S ops = true) (hN : ∀ (i : Nat) (o : Oper), ops[i]? = some o → dstOK C.N o.dst) {Q : Exit → Act → World → Prop} (K : FinT) (hK : ∀ t h n ι a w, K t h n → Inv C ι ⟨t, h, n⟩ a w → Q .normal a w) :
    ∀ (m : Nat) (R : List Nat) (listed : Array Bool) (t : Nat → AV) (h : Heap) (n : Nat) (ι : Nat → Nat) (a : Act) (w : World), R.length = m → listed.size = ops.size → R.Pairwise (· < ·) → (∀ i ∈ R, i < k0) → (∀ i, (i ∈ R ∨ k0 ≤ i ∧ i < ops.size) ↔ i < ops.size ∧ listed.getD i true = false) →
      (∀ (k : Nat) (ok : Oper), ops[k]? = some ok → listed.getD k true = true → ∀ e ∈ ok.after, Region.binds .any e = true → listed.getD e.on true = true) →
      Inv C ι ⟨t, h, n⟩ a w → Sub hS h → evD P C S V hS ops (opsAt ops R) t h n (cutK P C S V ops k0 K) → wpAny P .any ops Q (m + (ops.size - k0)) listed a w := by
  intro m
  induction m with
  | zero =>
    intro R listed t h n ι a w hm hsz _ _ hR hcl I hs e
    have : R = [] := List.eq_nil_of_length_eq_zero hm
    subst this
    obtain ⟨hS2, hs2, e2⟩ : cutK P C S V ops k0 K t h n := e
    rw [Nat.zero_add]
    refine evD_any (hS := hS2) hB hN K hK (ops.size - k0) (List.range' k0 (ops.size - k0)) listed t h n ι a w (by simp) hsz List.pairwise_lt_range' (fun i => ?_) hcl I hs2 e2
    rw [← hR i, List.mem_range'_1]
    constructor
    · intro q; exact .inr ⟨q.1, by omega⟩
    · rintro (q | q)
      · cases q
      · exact ⟨q.1, by omega⟩
  | succ m ih =>
    intro R listed t h n ι a w hm hsz hord hlt0 hR hcl I hs e
    rw [show m + 1 + (ops.size - k0) = (m + (ops.size - k0)) + 1 by omega]
    refine ⟨fun h0 => ?_, fun i hi => ?_⟩
    · -- the first one of the text may come up
      exfalso
      cases R with
      | nil => simp at hm
      | cons i0 R' =>
        obtain ⟨hi0, hl0⟩ := (hR i0).1 (by simp)
        have hi0k := hlt0 i0 (by simp)
        have hop : ops[i0]? = some ops[i0] := Array.getElem?_eq_getElem hi0
        have : i0 ∈ Region.ready .any ops listed := by
          refine mem_ready.2 ⟨hl0, ops[i0], hop, fun e he hb => ?_⟩
          have hlt := (drawB_spec hB hop).1 e he hb
          have hnot : ¬ (e.on ∈ i0 :: R' ∨ k0 ≤ e.on ∧ e.on < ops.size) := by
            rintro (hmem | hmem)
            · rcases List.mem_cons.1 hmem with h1 | h1
              · omega
              · have := (List.pairwise_cons.1 hord).1 _ h1; omega
            · omega
          rw [hR] at hnot
          have h3 : listed.getD e.on true = true := by
            cases hh : listed.getD e.on true with
            | true => rfl
            | false => exact absurd ⟨by omega, hh⟩ hnot
          rw [← listed_true (by omega)]
          exact h3
        rw [h0] at this
        cases this
    · obtain ⟨hli, oi, hoi, hall⟩ := mem_ready.1 hi
      have hilt : i < ops.size := (Array.getElem?_eq_some_iff.1 hoi).1
      have hall0 : ∀ e ∈ oi.after, Region.binds .any e = true → listed.getD e.on true = true := fun e he hb => by
        have h1 := hall e he hb
        rcases Nat.lt_or_ge e.on listed.size with hlt | hge
        · rw [listed_true hlt]; exact h1
        · simp [Array.getElem?_eq_none hge] at h1
      have hiR : i ∈ R := by
        rcases (hR i).2 ⟨hilt, hli⟩ with q | q
        · exact q
        · exfalso
          cases R with
          | nil => simp at hm
          | cons i0 R' =>
            have h1 := waits_listed hcl ops.size i i0 oi hoi hall0 (hC i i0 q.1 q.2 (hlt0 i0 (by simp)))
            have h2 := ((hR i0).1 (by simp)).2
            rw [h1] at h2
            cases h2
      obtain ⟨R1, R2, rfl⟩ := List.append_of_mem hiR
      obtain ⟨p1, p2, p3⟩ := List.pairwise_append.1 hord
      have hall' : ∀ e ∈ oi.after, Region.binds .any e = true → listed.getD e.on true = true := fun e he hb => by
        have h1 := hall e he hb
        rcases Nat.lt_or_ge e.on listed.size with hlt | hge
        · rw [listed_true hlt]; exact h1
        · simp [Array.getElem?_eq_none hge] at h1
      have hfree : ∀ x ∈ opsAt ops R1, free2 S ops x oi = true := by
        intro x hx
        obtain ⟨j, hj, hxj⟩ := List.mem_filterMap.1 hx
        have hji : j < i := p3 j hj i (by simp)
        rcases (drawB_spec hB hoi).2 j x hji hxj with hw | hf
        · have h1 := waits_listed hcl ops.size i j oi hoi hall' hw
          have h2 := ((hR j).1 (by simp [hj])).2
          rw [h1] at h2
          cases h2
        · exact hf
      have hdst : ∀ x ∈ opsAt ops R1, dstOK C.N x.dst := by
        intro x hx
        obtain ⟨j, _, hxj⟩ := List.mem_filterMap.1 hx
        exact hN j x hxj
      have hsplit : opsAt ops (R1 ++ i :: R2) = opsAt ops R1 ++ oi :: opsAt ops R2 := by
        unfold opsAt
        rw [List.filterMap_append, List.filterMap_cons, hoi]
      rw [hsplit] at e
      have e := evD_first (opsAt ops R1) hfree hdst I hs e
      have happ : opsAt ops R1 ++ opsAt ops R2 = opsAt ops (R1 ++ R2) := by unfold opsAt; rw [List.filterMap_append]
      rw [happ] at e
      have hlen : (R1 ++ R2).length = m := by simp at hm ⊢; omega
      have hord' : (R1 ++ R2).Pairwise (· < ·) := List.pairwise_append.2 ⟨p1, (List.pairwise_cons.1 p2).2, fun x hx y hy => p3 x hx y (by simp [hy])⟩
      have hni : i ∉ R1 ++ R2 := by
        intro hmem
        rcases List.mem_append.1 hmem with h1 | h1
        · have := p3 i h1 i (by simp); omega
        · have := (List.pairwise_cons.1 p2).1 i h1; omega
      have hik0 : i < k0 := hlt0 i (by simp)
      have hlt' : ∀ k ∈ R1 ++ R2, k < k0 := fun k hk => hlt0 k (by
        rcases List.mem_append.1 hk with q | q
        · exact List.mem_append.2 (.inl q)
        · exact List.mem_append.2 (.inr (List.mem_cons_of_mem _ q)))
      have hR' : ∀ k, (k ∈ R1 ++ R2 ∨ k0 ≤ k ∧ k < ops.size) ↔ k < ops.size ∧ (listed.setIfInBounds i true).getD k true = false := by
        intro k
        rw [getD_set]
        by_cases hik : i = k
        · subst hik
          rw [if_pos rfl]
          exact ⟨fun hmem => by rcases hmem with q | q; exact absurd q hni; omega, fun hh => by cases hh.2⟩
        · rw [if_neg hik, ← hR k]
          simp only [List.mem_append, List.mem_cons]
          exact ⟨fun hh => by rcases hh with (hh | hh) | hh; exact .inl (.inl hh); exact .inl (.inr (.inr hh)); exact .inr hh, fun hh => by rcases hh with (hh | hh | hh) | hh; exact .inl (.inl hh); exact absurd hh.symm hik; exact .inl (.inr hh); exact .inr hh⟩
      have hcl' : ∀ (k : Nat) (ok : Oper), ops[k]? = some ok → (listed.setIfInBounds i true).getD k true = true → ∀ e ∈ ok.after, Region.binds .any e = true → (listed.setIfInBounds i true).getD e.on true = true := by
        intro k ok hk hl e he hb
        rw [getD_set] at hl ⊢
        split
        · rfl
        · by_cases hik : i = k
          · subst hik
            rw [hoi] at hk
            injection hk with hk
            subst hk
            exact hall' e he hb
          · rw [if_neg hik] at hl
            exact hcl k ok hk hl e he hb
      have next : ∀ (v : Value) (av : AV) (h' : Heap) (n' : Nat) (ι' : Nat → Nat) (w' : World), Sub hS h' → evD P C S V hS ops (opsAt ops (R1 ++ R2)) (putT t oi.dst av) h' n' (cutK P C S V ops k0 K) → Inv C ι' ⟨t, h', n'⟩ a w' → RAV ι' h' (C.b + n') w' av v →
          wpAny P .any ops Q (m + (ops.size - k0)) (listed.setIfInBounds i true) (a.put oi.dst v) w' := by
        intro v av h' n' ι' w' hs' e' I' hr
        exact ih (R1 ++ R2) _ _ h' n' ι' _ w' hlen (by simpa using hsz) hord' hlt' hR' hcl' (I'.put (hN i oi hoi) hr) hs' e'
      unfold wpOp
      simp only [hoi]
      unfold evD at e
      by_cases hsim : simpleP S oi = true
      · rw [if_pos hsim] at e
        obtain ⟨av, hv, okv, e⟩ := e
        unfold valD at hv
        split at hv
        · rename_i hwant
          rw [wanted_ok I hN hwant, if_pos rfl]
          refine .inl ?_
          split at hv
          · obtain ⟨v, w', h1, I', h2⟩ := sopX_ok (P := P) I (sopX_mono hs hv)
            unfold Oper.wp
            rw [h1, Oper.upon_value]
            exact next v av h n ι w' hs e I' h2
          · rename_i hsb
            have p : PureC P hS t oi.op av := by
              rcases okv with okv | okv | okv
              · exact absurd okv hsb
              · rw [hwant] at okv; cases okv
              · exact okv
            exact pure_wp (C := C) (n := n) hs p a w ι I _ Q (fun _ _ _ _ _ hf _ => hf.elim) (fun v av' h' n' ι' w' hk hI hr => by
              obtain ⟨rfl, rfl, rfl⟩ := hk
              exact next v _ _ _ ι' w' hs e hI hr)
        · rename_i hwant
          rw [wanted_ok I hN hwant, if_neg (by simp)]
          injection hv with hv
          subst hv
          exact next undef _ h n ι w hs e I (rav_v _)
        · cases hv
      · rw [if_neg hsim] at e
        unfold sigD at e
        split at e
        · rename_i hwant
          rw [wanted_ok I hN hwant, if_pos rfl]
          refine .inl ?_
          exact aop_ok e a w ι I _ Q (fun _ _ _ _ _ hf _ => hf.elim) (fun v av h' n' ι' w' hk hI hr => next v av h' n' ι' w' hk.1 hk.2 hI hr)
        · rename_i hwant
          rw [wanted_ok I hN hwant, if_neg (by simp)]
          exact next undef _ h n ι w hs e I (rav_v _)
        · exact e.elim
def cutB (k0 : Nat) (ops : Array Oper) : Bool := decide (k0 ≤ ops.size) && (List.range ops.size).all fun i => decide (i < k0) || (List.range k0).all fun j => waits ops ops.size i j
theorem ops_take (ops : Array Oper) : ∀ n, n ≤ ops.size → opsAt ops (List.range n) = ops.toList.take n := by
  intro n
  unfold opsAt
  induction n with
  | zero => simp
  | succ n ih =>
    intro hn
    rw [List.range_succ, List.filterMap_append, ih (by omega), List.take_add_one]
    congr 1
    have : ops[n]? = some ops[n] := Array.getElem?_eq_getElem (by omega)
    simp [this]
theorem ops_drop (ops : Array Oper) (k : Nat) (hk : k ≤ ops.size) : opsAt ops (List.range' k (ops.size - k)) = ops.toList.drop k := by
  have h1 := ops_take ops ops.size (Nat.le_refl _)
  have h2 := ops_take ops k hk
  have e : List.range ops.size = List.range k ++ List.range' k (ops.size - k) := by
    have := List.range'_append_1 (s := 0) (m := k) (n := ops.size - k)
    rw [Nat.zero_add] at this
    rw [List.range_eq_range', List.range_eq_range', this]
    congr 1; omega
  rw [e] at h1
  unfold opsAt at h1 h2 ⊢
  rw [List.filterMap_append, h2] at h1
  have h3 : (ops.toList.take ops.size) = ops.toList.take k ++ ops.toList.drop k := by
    rw [List.take_append_drop, List.take_of_length_le (by simp)]
  rw [h3] at h1
  exact List.append_cancel_left h1
theorem AWP.regionC (k0 : Nat) {Q : Exit → St → Prop} {s : St} {id : Nat} (hm : P.follows .mixedOrders = true) (hB : drawB S ops = true) (hC : cutB k0 ops = true) (hN : dstsB C.N ops.toList = true) (hs : Sub hS s.h)
    (e : evD P C S V hS ops (ops.toList.take k0) s.t s.h s.n (fun t h n => ∃ hS2, Sub hS2 h ∧ evD P C S V hS2 ops (ops.toList.drop k0) t h n (fun t h n => Q .normal ⟨t, h, n⟩))) (hr : C.x.rd = none := by rfl) : AWP P C (.region id ops true) Q s := by
  refine AWP.of_wp hr (fun a w ι I => ?_)
  refine wp_region_any hm ?_
  have hN' : ∀ (i : Nat) (o : Oper), ops[i]? = some o → dstOK C.N o.dst := by
    intro i o hi
    have := List.all_eq_true.1 hN o (List.mem_of_getElem? (i := i) (by simpa using hi))
    unfold dstOK
    cases hdd : o.dst with
    | none => trivial
    | some d => rw [hdd] at this; simpa using this
  unfold cutB at hC
  simp only [Bool.and_eq_true, decide_eq_true_eq, List.all_eq_true, List.mem_range, Bool.or_eq_true] at hC
  obtain ⟨hk, hC⟩ := hC
  have := evD_any2 (S := S) (V := V) (hS := hS) (Q := fun e a' w' => ∃ s' ι', Q e s' ∧ Inv C ι' s' a' w') k0 hk (fun i j h1 h2 h3 => (hC i h2).resolve_left (by omega) j h3) hB hN' (fun t h n => Q .normal ⟨t, h, n⟩) (fun t h n ι' a' w' hk I' => ⟨_, ι', hk, I'⟩) k0 (List.range k0) (Array.replicate ops.size false) s.t s.h s.n ι a { w with drawn := w.drawn + 1 }
    (by simp) (by simp) List.pairwise_lt_range (fun i hi => List.mem_range.1 hi) (fun i => by
      simp only [List.mem_range]
      constructor
      · intro hi; exact ⟨by omega, by simp [Array.getD, show i < ops.size by omega]⟩
      · intro hi; omega) (fun k ok hk hl => by
      have hlt : k < ops.size := (Array.getElem?_eq_some_iff.1 hk).1
      simp [Array.getD, hlt] at hl) I.drew hs (by
      rw [ops_take ops k0 hk]
      refine evD_mono _ _ _ _ (fun t h n k => ?_) e
      unfold cutK
      rw [ops_drop ops k0 hk]
      exact k)
  rw [show k0 + (ops.size - k0) = ops.size by omega] at this
  exact this
theorem evD_ops {S : List Tmp} {V : List AV} {hS : Heap} : ∀ (l : List Oper) (t : Nat → AV) (h : Heap) (n : Nat) (K : FinT), (∀ o ∈ l, o.guard = none) → evD P C S V hS #[] l t h n K → evD P C S V hS ops l t h n K := by
  intro l
  induction l with
  | nil => intro t h n K _ e; exact e
  | cons o l ih =>
    intro t h n K hgl e
    have hgo : o.guard = none := hgl o (by simp)
    have hw : ∀ (os : Array Oper) t, wantD os t o = some true := by intro os t; unfold wantD; rw [hgo]
    unfold evD at e ⊢
    split at e
    · rename_i hs
      rw [if_pos hs]
      obtain ⟨v, hv, ok, e⟩ := e
      refine ⟨v, ?_, ?_, ih _ _ _ _ (fun o ho => hgl o (by simp [ho])) e⟩
      · unfold valD at hv ⊢
        rw [hw] at hv ⊢
        exact hv
      · unfold okD at ok ⊢
        rw [hw] at ok ⊢
        exact ok
    · rename_i hs
      rw [if_neg hs]
      unfold sigD at e ⊢
      rw [hw] at e ⊢
      exact aop_mono (fun v h' n' ⟨s, e⟩ => ⟨s, ih _ _ _ _ (fun o ho => hgl o (by simp [ho])) e⟩) e
def Part2 (P : Program) (C : Ctx) (S : List Tmp) (V : List AV) (l : List Oper) (K : FinT) (t : Nat → AV) (h : Heap) (n : Nat) : Prop := ∃ hS2, Sub hS2 h ∧ evD P C S V hS2 #[] l t h n K
theorem P2 {P : Program} {C : Ctx} {S : List Tmp} {V : List AV} {l : List Oper} {K : FinT} {t : Nat → AV} {h : Heap} {n : Nat} (hS2 : Heap) (s : Sub hS2 h) (e : evD P C S V hS2 #[] l t h n K) : Part2 P C S V l K t h n := ⟨hS2, s, e⟩
theorem AWP.seqRegC (k0 : Nat) (S : List Tmp) (V : List AV) {P : Program} {C : Ctx} {Q : Exit → St → Prop} {s : St} {id : Nat} {ops : Array Oper} {y : Code} (hS : Heap) (hsub : Sub hS s.h) (hm : P.follows .mixedOrders = true) (hB : drawB S ops = true) (hC : cutB k0 ops = true) (hN : dstsB C.N ops.toList = true)
    (e : ∀ K : FinT, (∀ t h n, AWP P C y Q ⟨t, h, n⟩ → K t h n) → evD P C S V hS #[] (ops.toList.take k0) s.t s.h s.n (Part2 P C S V (ops.toList.drop k0) K)) (hg : (ops.all fun o => o.guard.isNone) = true) (hr : C.x.rd = none := by rfl) : AWP P C (.seq (.region id ops true) y) Q s := by
  have hgo : ∀ o ∈ ops.toList, o.guard = none := fun o ho => by
    have := Array.all_eq_true_iff_forall_mem.1 hg o (by simpa using ho)
    simpa using this
  refine .seq (AWP.regionC (V := V) k0 hm hB hC hN hsub ?_ hr)
  refine evD_ops _ _ _ _ _ (fun o ho => hgo o (List.mem_of_mem_take ho)) ?_
  refine evD_mono _ _ _ _ (fun t h n k => ?_) (e _ (fun t h n k => k))
  obtain ⟨hS2, s2, k⟩ := k
  exact ⟨hS2, s2, evD_ops _ _ _ _ _ (fun o ho => hgo o (List.mem_of_mem_drop ho)) k⟩
end
end Go.Proofs.YtihgnpboabpchaaGreatDoor.Am
namespace Go.Proofs.YtihgnpboabpchaaGreatDoor
set_option linter.unusedSimpArgs false
set_option linter.unusedVariables false
set_option linter.unnecessarySimpa false
open Go Am
namespace Am
def lessC (c d : Cell) : Prop := c = d ∨ ∃ sz, c = .p (.v (.slice none 0 0)) ∧ d = .p (.sl sz [])
def lessL : List Cell → List Cell → Prop
  | [], [] => True
  | c :: cs, d :: ds => lessC c d ∧ lessL cs ds
  | _, _ => False
def lessV : AV → AV → Prop
  | .agg cs, .agg ds => lessL cs ds
  | .one c, .one d => lessC c d
  | x, y => x = y
def lessVs : List AV → List AV → Prop
  | [], [] => True
  | c :: cs, d :: ds => lessV c d ∧ lessVs cs ds
  | _, _ => False
theorem lessC.refl (c : Cell) : lessC c c := .inl rfl
theorem lessC.nil (sz : Nat) : lessC (.p (.v (.slice none 0 0))) (.p (.sl sz [])) := .inr ⟨sz, rfl, rfl⟩
theorem lessL.refl : ∀ l, lessL l l
  | [] => trivial
  | c :: l => ⟨.refl c, lessL.refl l⟩
theorem lessL.len : ∀ {l m}, lessL l m → l.length = m.length
  | [], [], _ => rfl
  | _ :: _, _ :: _, h => by rw [List.length_cons, List.length_cons, h.2.len]
  | [], _ :: _, h => h.elim
  | _ :: _, [], h => h.elim
theorem lessL.at : ∀ {l m}, lessL l m → ∀ {i : Nat} {c d : Cell}, l[i]? = some c → m[i]? = some d → lessC c d
  | [], _, _, _, _, _, hc, _ => by simp at hc
  | _ :: _, [], h, _, _, _, _, _ => h.elim
  | c :: l, d :: m, h, 0, _, _, hc, hd => by simp at hc hd; subst hc; subst hd; exact h.1
  | c :: l, d :: m, h, i + 1, _, _, hc, hd => h.2.at (i := i) (by simpa using hc) (by simpa using hd)
theorem lessVs.len : ∀ {l m}, lessVs l m → l.length = m.length
  | [], [], _ => rfl
  | _ :: _, _ :: _, h => by rw [List.length_cons, List.length_cons, h.2.len]
  | [], _ :: _, h => h.elim
  | _ :: _, [], h => h.elim
theorem lessVs.at : ∀ {l m}, lessVs l m → ∀ {i : Nat} {c d : AV}, l[i]? = some c → m[i]? = some d → lessV c d
  | [], _, _, _, _, _, hc, _ => by simp at hc
  | _ :: _, [], h, _, _, _, _, _ => h.elim
  | c :: l, d :: m, h, 0, _, _, hc, hd => by simp at hc hd; subst hc; subst hd; exact h.1
  | c :: l, d :: m, h, i + 1, _, _, hc, hd => h.2.at (i := i) (by simpa using hc) (by simpa using hd)
theorem lessV.refl (x : AV) : lessV x x := by
  cases x with
  | one c => exact lessC.refl c
  | agg l => exact lessL.refl l
  | tup l => rfl
theorem lessL.app : ∀ {a b c d : List Cell}, lessL a b → lessL c d → lessL (a ++ c) (b ++ d)
  | [], [], _, _, _, h => h
  | _ :: _, _ :: _, _, _, h1, h2 => ⟨h1.1, h1.2.app h2⟩
  | [], _ :: _, _, _, h, _ => h.elim
  | _ :: _, [], _, _, h, _ => h.elim
theorem lessC.ok {ι : Nat → Nat} {h : Heap} {bd : Nat} {w : World} {c d : Cell} {v : Value} (l : lessC c d) (r : RCell ι h bd w c v) : RCell ι h bd w d v := by
  rcases l with rfl | ⟨sz, rfl, rfl⟩
  · exact r
  · cases r with
    | p hd => cases hd with
      | v => exact .p (RPD.sl (es := []) none 0 (fun _ _ => undef) (Nat.le_refl _) (fun _ => rfl) (fun _ e => by cases e) (fun _ e => by cases e) (fun _ _ e => by simp at e) (fun _ _ e => by simp at e))
theorem lessV.ok {ι : Nat → Nat} {h : Heap} {bd : Nat} {w : World} {x y : AV} {v : Value} (l : lessV x y) (r : RAV ι h bd w x v) : RAV ι h bd w y v := by
  cases r with
  | one hc =>
    cases y with
    | one d => exact .one (lessC.ok l hc)
    | _ => cases l
  | agg V hl hv =>
    cases y with
    | agg ds =>
      refine .agg V (hl.trans (lessL.len l)) (fun i d u hd hu => ?_)
      have hi : i < V.length := (List.getElem?_eq_some_iff.1 hu).1
      rename_i cs
      have hc := List.getElem?_eq_getElem (l := cs) (i := i) (by omega)
      exact (lessL.at l hc hd).ok (hv i _ u hc hu)
    | _ => cases l
  | tup V hl hv =>
    cases y with
    | tup ds => cases l; exact .tup V hl hv
    | _ => cases l
theorem ACalls.argNil {P : Program} {f : FuncId} {args args' : List AV} {h : Heap} {b m : Nat} {R : AV → Heap → Prop} (c : ACalls P f args' h b m R) (l : lessVs args args') : ACalls P f args h b m R := by
  intro ι w vs hb hh ha
  refine c ι w vs hb hh ⟨ha.1.trans l.len, fun i d u hd hu => ?_⟩
  have hi : i < vs.length := (List.getElem?_eq_some_iff.1 hu).1
  have hc := List.getElem?_eq_getElem (l := args) (i := i) (by have := ha.1; omega)
  exact (l.at hc hd).ok (ha.2 i _ u hc hu)
theorem AWP.nilsAt {P : Program} {C : Ctx} {Q : Exit → St → Prop} {c : Code} {t : Nat → AV} {h : Heap} {n : Nat} (G : Nat) {gb : Blk} {cs : List Cell} (hG : h G = some gb) (l : lessL gb.cells cs)
    (K : AWP P C c Q ⟨t, upd h G ⟨gb.ver, cs⟩, n⟩) : AWP P C c Q ⟨t, h, n⟩ := by
  refine .weak (fun a w ι I => ⟨ι, ?_⟩) K
  have hll := l.len
  generalize hh2 : upd h G ⟨gb.ver, cs⟩ = h2
  have hat : ∀ i b', h2 i = some b' → ∃ b, h i = some b ∧ b.ver = b'.ver ∧ b.cells.length = b'.cells.length ∧ lessL b.cells b'.cells := by
    intro i b' e
    subst hh2
    by_cases hi : i = G
    · subst hi; rw [upd_same] at e; injection e with e; subst e
      exact ⟨gb, hG, rfl, hll, l⟩
    · rw [upd_ne _ _ _ _ hi] at e
      exact ⟨b', e, rfl, rfl, lessL.refl _⟩
  have hnil : ∀ {b b' : Blk}, b.cells.length = b'.cells.length → b'.cells ≠ [] → b.cells ≠ [] := fun e ne hz => ne (List.eq_nil_of_length_eq_zero (by rw [← e, hz]; rfl))
  have M : Moves ι h (C.b + n) w ι h2 (C.b + n) w := by
    refine ⟨Nat.le_refl _, fun b s _ i b' e ne => ?_, fun _ _ _ => rfl, fun i _ b' e => ?_⟩
    · obtain ⟨b0, e0, _, hlen, _⟩ := hat i b' e
      exact s i b0 e0 (hnil hlen ne)
    · obtain ⟨b0, e0, hv, _, _⟩ := hat i b' e
      exact ⟨b0, e0, Nat.le_of_eq hv, fun _ => rfl⟩
  refine ⟨fun i hi b' e => ?_, fun i hi b' e ne => ?_, fun i hi => ?_, ⟨fun i b' e ne => ?_, fun i j bi bj ei ej ni nj heq => ?_⟩, fun j => (I.tmps j).move M, I.ntmps, I.defers, I.keeps⟩
  · obtain ⟨b0, e0, hv, hlen, _⟩ := hat i b' e
    obtain ⟨bb, h3, h4, h5⟩ := I.outer i hi b0 e0
    refine ⟨bb, h3, hv ▸ h4, ?_⟩
    rcases h5 with ⟨h5, h6⟩ | ⟨h5, h6⟩
    · exact .inl ⟨h5.trans hlen, h6⟩
    · exact .inr ⟨hv ▸ h5, fun ne => h6 (hnil hlen ne)⟩
  · obtain ⟨b0, e0, _, hlen, _⟩ := hat i b' e
    exact I.fresh i hi b0 e0 (hnil hlen ne)
  · show h2 i = none
    cases e : h2 i with
    | none => rfl
    | some b' =>
      obtain ⟨b0, e0, _⟩ := hat i b' e
      have e3 : h i = none := I.bound i hi
      rw [e3] at e0; cases e0
  · obtain ⟨b0, e0, hv, hlen, h6⟩ := hat i b' e
    obtain ⟨cc, ty, g1, g2, g3⟩ := I.heap.blk i b0 e0 (hnil hlen ne)
    refine ⟨cc, ty, g1, g2.trans hlen, fun j d u hd hu => ?_⟩
    have hj : j < b'.cells.length := (List.getElem?_eq_some_iff.1 hd).1
    have hc := List.getElem?_eq_getElem (l := b0.cells) (i := j) (by omega)
    exact ((h6.at hc hd).ok (g3 j _ u hc hu)).move M
  · obtain ⟨b0, e0, _, hlen, _⟩ := hat i bi ei
    obtain ⟨b1, e1, _, hlen1, _⟩ := hat j bj ej
    exact I.heap.inj i j b0 b1 e0 e1 (hnil hlen ni) (hnil hlen1 nj) heq
end Am
end Go.Proofs.YtihgnpboabpchaaGreatDoor
namespace Go.Proofs.YtihgnpboabpchaaGreatDoor
set_option linter.unusedSimpArgs false
set_option linter.unusedVariables false
set_option linter.unnecessarySimpa false
open Go Am
set_option maxRecDepth 100000
def idxI_str (g : FuncId) (cap : List Cell) (f : S → Bool) (xs : List S) (h : Heap) (i : Nat) (s : St) : Prop :=
  s.h = h ∧ s.t 0 = .one (.p (.sl 1 (xs.map encS))) ∧ s.t 1 = .one (.clo (.func g) [] cap) ∧ s.t 7 = IntV xs.length ∧ s.t 8 = IntV i ∧ idxFrom f 0 xs = idxFrom f i (xs.drop i)
end Go.Proofs.YtihgnpboabpchaaGreatDoor
namespace Go.Proofs.YtihgnpboabpchaaGreatDoor
set_option linter.unusedSimpArgs false
set_option linter.unusedVariables false
set_option linter.unnecessarySimpa false
open Go Am
set_option maxRecDepth 100000
end Go.Proofs.YtihgnpboabpchaaGreatDoor
namespace Go.Proofs.YtihgnpboabpchaaGreatDoor
set_option linter.unusedSimpArgs false
set_option linter.unusedVariables false
set_option linter.unnecessarySimpa false
open Go Am
set_option maxRecDepth 100000
def idxI_dn (g : FuncId) (cap : List Cell) (f : Dn → Bool) (xs : List Dn) (h : Heap) (i : Nat) (s : St) : Prop :=
  s.h = h ∧ s.t 0 = .one (.p (.sl 2 (xs.map encD))) ∧ s.t 1 = .one (.clo (.func g) [] cap) ∧ s.t 7 = IntV xs.length ∧ s.t 8 = IntV i ∧ idxFrom f 0 xs = idxFrom f i (xs.drop i)
end Go.Proofs.YtihgnpboabpchaaGreatDoor
namespace Go.Proofs.YtihgnpboabpchaaGreatDoor
set_option linter.unusedSimpArgs false
set_option linter.unusedVariables false
set_option linter.unnecessarySimpa false
open Go Am
set_option maxRecDepth 100000
def risI (l : List S) (most : Int) (h : Heap) (i : Nat) (st : St) : Prop :=
  st.h = h ∧ st.t 0 = ListV l ∧ st.t 1 = IntV most ∧ st.t 9 = ListV l ∧ st.t 10 = IntV l.length ∧ st.t 11 = IntV (i : Nat) ∧ riseF none l = riseF (if i = 0 then none else l[i - 1]?) (l.drop i)
theorem rises_ok (l : List S) (most : Nat) (hl : l.length ≤ 1000000) (h : Heap) (b : Nat) : ACalls Tryz.prog 102 [ListV l, IntV most] h b 0 (fun r h' => r = BoolV (risesX l most) ∧ h' = h) := by
  refine ACalls.enter Tryz.func102 rfl (by simp [Tryz.ntmps102]) (fun ι w hn H => ?_)
  have fin : ∀ (t : Nat → AV) (n : Nat) (v : Bool), t 4 = BoolV v → v = risesX l most → Am.Ends Tryz.prog ⟨Tryz.f102.ntmps, b, ι, h, w, x0⟩ Tryz.f102 0 (fun r h' => r = BoolV (risesX l most) ∧ h' = h) ⟨t, h, n⟩ := by
    intro t n v ht hv
    exact Ends.pure hn H (fun _ _ => rfl) (r0 := BoolV v) (by rw [show Tryz.f102.results.toList = [.tmp 4] from rfl]; exact Ecf @ht) (.v _) ⟨by rw [hv], rfl⟩
  refine Rk ?_
  refine AWP.seq ?_
  refine Rk ?_
  refine AWP.block ?_
  refine AWP.loopK 0 (fun m st => ∃ i, i ≤ l.length ∧ m = l.length - i ∧ risI l most h i st) l.length rfl ⟨0, Nat.zero_le _, rfl, rfl, by exact Er, by exact Er, by exact Er, by exact Er, by exact Er, rfl⟩ ?_
  rintro m ⟨t, hh, n⟩ ⟨i, hi, rfl, rfl, e0, e1, e9, e10, e11, hr⟩ hn1
  simp only at e0 e1 e9 e10 e11 hn1
  subst hn1
  have hw1 : IntKind.i64.wrap ((i : Int) + 1) = ((i + 1 : Nat) : Int) := by rw [wrap_i64 (by omega) (by omega)]; rfl
  refine Rkf (jn2 @e10 @e11) ?_
  refine AWP.seq ?_
  by_cases hlt : (i : Int) < l.length
  · refine Btf @hlt ?_
    refine AWP.skip ?_
    refine Ev ?_
    refine AWP.seq ?_
    refine AWP.block ?_
    have hi2 : i < l.length := by omega
    obtain ⟨p, hp⟩ : ∃ p, l[i] = p := ⟨_, rfl⟩
    have hge : (l.map encS).getD i [] = [.v (.string (mkS p))] := by rw [encS_getD _ i hi2, hp]
    have hdr : l.drop i = p :: l.drop (i + 1) := by rw [List.drop_eq_getElem_cons hi2, hp]
    have hpi : l[i]? = some p := by rw [List.getElem?_eq_getElem hi2, hp]
    refine Rgf (jn4 @e9 @e11 @hlt @hge) (fun E K hE hK => ?_)
    refine ⟨by omega, ?_⟩
    refine hK _ _ _ ?_; clear hE hK K E
    refine AWP.seq ?_
    refine Rg (fun E K hE hK => ?_)
    refine Us (Check_ok (mkS p) _ _) body_31 ?_
    refine Evf @mkS_list ?_
    refine hK _ _ _ ?_; clear hE hK K E
    by_cases hc : chkN p = 0
    · refine Bsf @hc ?_
      refine AWP.seq ?_
      refine Rk ?_
      by_cases h0 : i = 0
      · subst h0
        have h0' : ((0 : Nat) : Int) = 0 := rfl
        refine Btf @h0' ?_
        refine AWP.exit ?_
        refine Ev ?_
        refine Raf (jn2 @e11 @hw1) (fun E K hE hK => ?_); refine hK _ _ _ ?_; clear hE hK K E
        refine ⟨rfl, _, ?_, 1, by omega, rfl, rfl, by exact Ecf @e0, by exact Ecf @e1, by exact Ecf @e9, by exact Ecf @e10, by exact Er, ?_⟩
        · omega
        · rw [hr, hdr, if_pos rfl, if_neg (by decide), hpi]
          show (decide (chkN p = 0) && (true && _)) = _
          rw [decide_eq_true hc]; simp
      · have h0' : ¬ (i : Int) = 0 := by omega
        refine Bsf @h0' ?_
        rw [if_neg h0, hdr] at hr
        have hi3 : i - 1 < l.length := by omega
        obtain ⟨q, hq⟩ : ∃ q, l[i - 1] = q := ⟨_, rfl⟩
        have hqi : l[i - 1]? = some q := by rw [List.getElem?_eq_getElem hi3, hq]
        rw [hqi] at hr
        have hge2 : (l.map encS).getD (i - 1) [] = [.v (.string (mkS q))] := by rw [encS_getD _ (i - 1) hi3, hq]
        have hwm : IntKind.i64.wrap ((i : Int) - 1) = ((i - 1 : Nat) : Int) := by rw [wrap_i64 (by omega) (by omega)]; omega
        have hlt2 : ((i - 1 : Nat) : Int) < l.length := by omega
        have hr2 : riseF none l = ((decide ((cmpN q p).2 = 0) && decide ((cmpN q p).1 < 0)) && riseF (some p) (l.drop (i + 1))) := by
          rw [hr]
          show (decide (chkN p = 0) && _) = _
          rw [decide_eq_true hc, Bool.true_and]
        obtain ⟨c, e, hce⟩ : ∃ c e, cmpN q p = (c, e) := ⟨_, _, rfl⟩
        rw [hce] at hr2
        simp only at hr2
        refine Rgf (jn5 @e0 @e11 @hwm @hlt2 @hge2) (fun E K hE hK => ?_)
        refine ⟨by omega, ?_⟩
        refine Us (Cmp_ok (mkS q) (mkS p) _ _) body_119 ?_
        refine Evf (jn2 @mkS_list @hce) ?_
        refine hK _ _ _ ?_; clear hE hK K E
        by_cases he : e = 0
        · by_cases hc0 : 0 ≤ c
          · refine Rkf (jn2 @he @hc0) ?_
            refine Bt ?_
            refine Rk ?_
            refine AWP.ret ?_
            refine Ev ?_
            exact fin _ _ false (by exact Er) (by unfold risesX; rw [hr2, decide_eq_false (show ¬ c < 0 by omega)]; simp)
          · refine Rkf (jn2 @he @hc0) ?_
            refine Bf ?_
            refine AWP.skip ?_
            refine Ev ?_
            refine Raf (jn2 @e11 @hw1) (fun E K hE hK => ?_); refine hK _ _ _ ?_; clear hE hK K E
            refine ⟨rfl, _, ?_, i + 1, by omega, rfl, rfl, by exact Ecf @e0, by exact Ecf @e1, by exact Ecf @e9, by exact Ecf @e10, by exact Er, ?_⟩
            · omega
            · rw [hr2, decide_eq_true he, decide_eq_true (show c < 0 by omega), if_neg (by omega), Nat.add_sub_cancel, hpi]; rfl
        · refine Rkf @he ?_
          refine Bt ?_
          refine Rk ?_
          refine AWP.ret ?_
          refine Ev ?_
          exact fin _ _ false (by exact Er) (by unfold risesX; rw [hr2, decide_eq_false he]; simp)
    · refine Btf @hc ?_
      refine Rk ?_
      refine AWP.ret ?_
      refine Ev ?_
      refine fin _ _ false (by exact Er) ?_
      unfold risesX
      have : riseF none l = false := by
        rw [← Bool.not_eq_true]
        intro hT
        exact hc (riseF_mem hT p (by rw [← hp]; exact List.getElem_mem hi2))
      rw [this]; rfl
  · refine Bff @hlt ?_
    refine AWP.exit ?_
    refine Ev ?_
    have hil : i = l.length := by omega
    refine Rkf (jn2 @e0 @e1) ?_
    refine AWP.ret ?_
    refine fin _ _ (decide ((l.length : Int) ≤ most)) (by exact Er) ?_
    unfold risesX
    rw [hr, hil, List.drop_length]
    have : ∀ q : Option S, riseF q [] = true := fun q => by cases q <;> rfl
    rw [this, Bool.true_and]
    exact decide_eq_decide.2 (by omega)
def ixsI (xs : List S) (p : S) (h : Heap) (i : Nat) (st : St) : Prop :=
  st.h = h ∧ st.t 0 = ListV xs ∧ st.t 1 = StrV p ∧ st.t 7 = IntV xs.length ∧ st.t 8 = IntV (i : Nat) ∧ idxFrom (fun q => decide (p = q)) 0 xs = idxFrom (fun q => decide (p = q)) i (xs.drop i)
abbrev inD (p dir : S) : Bool := decide ((withinN dir p).2 = 0) && (withinN dir p).1
abbrev rB (rn rd : List S) : Blk := ⟨0, [.p (.sl 1 (rn.map encS)), .p (.sl 1 (rd.map encS))]⟩
end Go.Proofs.YtihgnpboabpchaaGreatDoor
namespace Go.Proofs.YtihgnpboabpchaaGreatDoor
set_option linter.unusedSimpArgs false
set_option linter.unusedVariables false
set_option linter.unnecessarySimpa false
open Go Am
set_option maxRecDepth 100000
def ckI (l : List Dn) (h : Heap) (b i : Nat) (st : St) : Prop :=
  ∃ last : Int, (∀ id, id < b → st.h id = h id) ∧ st.t 3 = U64V last ∧ st.t 9 = DonesV l ∧ st.t 10 = IntV l.length ∧ st.t 11 = IntV (i : Nat) ∧ ckF 0 l = ckF last (l.drop i)
def sizeD (l : List Dn) : Prop := l.length ≤ 1000000 ∧ ∀ d ∈ l, d.names.length ≤ 1000000
theorem vMay_ok (rn rd : List S) (hn1 : rn.length ≤ 1000000) (hd1 : rd.length ≤ 1000000) (h : Heap) (b : Nat) : ACalls Tryz.prog 86 [ReadsV rn rd] h b 0 (fun r h' => r = IntV (mayX rn rd) ∧ h' = h) := by
  refine ACalls.enter Tryz.func86 rfl (by simp [Tryz.ntmps86]) (fun ι w hn H => ?_)
  have fin : ∀ (t : Nat → AV) (hh : Heap) (n : Nat) (v : Int), t 2 = IntV v → (∀ id, id < b → hh id = h id) → v = mayX rn rd → Am.Ends Tryz.prog ⟨Tryz.f86.ntmps, b, ι, h, w, x0⟩ Tryz.f86 0 (fun r h' => r = IntV (mayX rn rd) ∧ h' = h) ⟨t, hh, n⟩ := by
    intro t hh n v ht ho hv
    exact Ends.pure hn H ho (r0 := IntV v) (by rw [show Tryz.f86.results.toList = [.tmp 2] from rfl]; exact Ecf @ht) (.v _) ⟨by rw [hv], rfl⟩
  refine Rk ?_
  refine Rk ?_
  refine AWP.mid (fun st => st.n = 1 ∧ st.h b = some (rB rn rd) ∧ (∀ id, id < b → st.h id = h id) ∧ st.t 1 = .one (.ptr b 0 0) ∧ st.t 3 = ListV (dirsX rd)) ?_ ?_
  · match rd with
    | [] =>
      have h0 : ¬ (0 : Int) < ((0 : Nat) : Int) := by decide
      refine Rkf @h0 ?_
      refine Bf ?_
      refine AWP.skip ?_
      refine Ev ?_
      exact ⟨rfl, Ou, by exact Er⟩
    | p :: ds =>
      have h0 : (0 : Int) < ((ds.length + 1 : Nat) : Int) := by omega
      have hge : ((p :: ds).map encS).getD 0 [] = [.v (.string (mkS p))] := rfl
      refine Rgf @h0 (fun E K hE hK => ?_)
      refine ⟨by decide, ?_⟩
      have hge : (encS p :: List.map encS ds).getD (Int.toNat 0) [] = [.v (.string (mkS p))] := rfl
      refine Evf (jn2 @hge @mkS_list) ?_
      refine hK _ _ _ ?_; clear hE hK K E
      by_cases hp : p = []
      · subst hp
        refine Btf @toL0 ?_
        have hsl : List.take (ds.length + 1 - Int.toNat 1) (List.drop (Int.toNat 1) (encS [] :: List.map encS ds)) = List.map encS ds := by
          show List.take (ds.length + 1 - 1) (List.map encS ds) = _
          rw [Nat.add_sub_cancel, List.take_of_length_le (by simp)]
        refine Raf @hsl (fun E K hE hK => ?_)
        refine ⟨⟨by decide, by omega⟩, ?_⟩
        refine hK _ _ _ ?_; clear hE hK K E
        exact ⟨rfl, by exact Er, Ou, by exact Er, by exact Er⟩
      · refine Bff (jn2 @hp @toL0) ?_
        have hdx : dirsX (p :: ds) = p :: ds := by
          cases p with
          | nil => exact absurd rfl hp
          | cons c p => rfl
        refine AWP.skip ⟨rfl, by exact Er, Ou, by exact Er, ?_⟩
        rw [hdx]
        exact Er
  · rintro ⟨t, hh, n⟩ ⟨hn0, hb, ho, e1, e3⟩
    simp only at hn0 hb ho e1 e3
    subst hn0
    refine AWP.seq ?_
    by_cases c1 : (1024 : Int) < rd.length
    · refine Rkf (jn3 @e1 @hb @c1) ?_
      refine Bt ?_
      refine Rk ?_
      refine AWP.ret ?_
      refine Ev ?_
      exact fin _ _ _ 1 (by exact Er) ho (by unfold mayX; rw [if_neg (fun e => by omega)])
    cases c2 : risesX rn 1024
    · refine Rgf (jn3 @e1 @hb @c1) (fun E K hE hK => ?_)
      refine Us (rises_ok rn 1024 hn1 _ _) body_102 ?_
      refine Evf @c2 ?_
      refine hK _ _ _ ?_; clear hE hK K E
      refine Bt ?_
      refine Rk ?_
      refine AWP.ret ?_
      refine Ev ?_
      exact fin _ _ _ 1 (by exact Er) ho (by unfold mayX; rw [if_neg (fun e => by rw [c2] at e; exact absurd e.2.1 (by decide))])
    have hdl : (dirsX rd).length ≤ 1000000 := by
      match rd with
      | [] => simp [dirsX]
      | [] :: ds => simp [dirsX] at hd1 ⊢; omega
      | (_ :: _) :: ds => simpa [dirsX] using hd1
    cases c3 : risesX (dirsX rd) 1024
    · refine Rgf (jn3 @e1 @hb @c1) (fun E K hE hK => ?_)
      refine Us (rises_ok rn 1024 hn1 _ _) body_102 ?_
      refine Evf (jn2 @c2 @e3) ?_
      refine Us (rises_ok (dirsX rd) 1024 hdl _ _) body_102 ?_
      refine Evf @c3 ?_
      refine hK _ _ _ ?_; clear hE hK K E
      refine Bt ?_
      refine Rk ?_
      refine AWP.ret ?_
      refine Ev ?_
      exact fin _ _ _ 1 (by exact Er) ho (by unfold mayX; rw [if_neg (fun e => by rw [c3] at e; exact absurd e.2.2 (by decide))])
    · refine Rgf (jn3 @e1 @hb @c1) (fun E K hE hK => ?_)
      refine Us (rises_ok rn 1024 hn1 _ _) body_102 ?_
      refine Evf (jn2 @c2 @e3) ?_
      refine Us (rises_ok (dirsX rd) 1024 hdl _ _) body_102 ?_
      refine Evf @c3 ?_
      refine hK _ _ _ ?_; clear hE hK K E
      refine Bs ?_
      refine Rk ?_
      refine AWP.ret ?_
      exact fin _ _ _ 0 (by exact Er) ho (by unfold mayX; rw [if_pos ⟨by omega, c2, c3⟩])
end Go.Proofs.YtihgnpboabpchaaGreatDoor
namespace Go.Proofs.YtihgnpboabpchaaGreatDoor
set_option linter.unusedSimpArgs false
set_option linter.unusedVariables false
set_option linter.unnecessarySimpa false
open Go Am
set_option maxRecDepth 100000
def fewN (l : List S) : Bool := l.all (fun p => decide (p.length ≤ 200)) && decide (l.length ≤ 30)
def fewNI (l : List S) (h : Heap) (i : Nat) (st : St) : Prop :=
  st.h = h ∧ st.t 0 = ListV l ∧ st.t 5 = ListV l ∧ st.t 6 = IntV l.length ∧ st.t 7 = IntV (i : Nat) ∧ ∀ p ∈ l.take i, p.length ≤ 200
theorem fewNames_ok (l : List S) (hl : l.length ≤ 9223372036854775807) (h : Heap) (b : Nat) : ACalls Tryz.prog 56 [ListV l] h b 0 (fun r h' => r = BoolV (fewN l) ∧ h' = h) := by
  refine ACalls.enter Tryz.func56 rfl (by simp [Tryz.ntmps56]) (fun ι w hn H => ?_)
  have fin : ∀ (t : Nat → AV) (n : Nat) (v : Bool), t 2 = BoolV v → v = fewN l → Am.Ends Tryz.prog ⟨Tryz.f56.ntmps, b, ι, h, w, x0⟩ Tryz.f56 0 (fun r h' => r = BoolV (fewN l) ∧ h' = h) ⟨t, h, n⟩ := by
    intro t n v ht hv
    exact Ends.pure hn H (fun _ _ => rfl) (r0 := BoolV v) (by rw [show Tryz.f56.results.toList = [.tmp 2] from rfl]; exact Ecf @ht) (.v _) ⟨by rw [hv], rfl⟩
  refine Rk ?_
  refine AWP.seq ?_
  refine Rk ?_
  refine AWP.block ?_
  refine AWP.loopK 0 (fun m st => ∃ i, i ≤ l.length ∧ m = l.length - i ∧ fewNI l h i st) l.length rfl ⟨0, Nat.zero_le _, rfl, rfl, by exact Er, by exact Er, by exact Er, by exact Er, by simp⟩ ?_
  rintro m ⟨t, hh, n⟩ ⟨i, hi, rfl, rfl, e0, e5, e6, e7, hok⟩ hn1
  simp only at e0 e5 e6 e7 hn1
  subst hn1
  refine Rkf (jn2 @e6 @e7) ?_
  refine AWP.seq ?_
  by_cases hlt : (i : Int) < l.length
  · have hw1 : IntKind.i64.wrap ((i : Int) + 1) = ((i + 1 : Nat) : Int) := by rw [wrap_i64 (by omega) (by omega)]; rfl
    refine Btf @hlt ?_
    refine AWP.skip ?_
    refine Ev ?_
    refine AWP.seq ?_
    refine AWP.block ?_
    have hi2 : i < l.length := by omega
    refine AWP.seqReg (by kernel_rfl) (fun E K hE hK => ?_); simp -implicitDefEqProofs only [go_sem, ↓reduceIte, Nat.reduceEqDiff, Nat.reduceAdd, Nat.reduceLT, Nat.reduceLeDiff, reduceCtorEq, Int.toNat_natCast, e5, e7, List.length_map, hlt, encS_getD l i hi2]
    refine ⟨by omega, ?_⟩
    refine hK _ _ _ ?_; clear hE hK K E
    refine Rk ?_
    by_cases c1 : (200 : Int) < l[i].length
    · refine Btf (jn2 @mkS_size @c1) ?_
      refine Rk ?_
      refine AWP.ret ?_
      refine Ev ?_
      refine fin _ _ false (by exact Er) ?_
      symm
      unfold fewN
      rw [Bool.and_eq_false_iff]
      left
      rw [← Bool.not_eq_true]
      intro hall
      have := of_decide_eq_true (List.all_eq_true.1 hall l[i] (List.getElem_mem hi2))
      omega
    · refine Bff (jn2 @mkS_size @c1) ?_
      refine AWP.skip ?_
      refine Ev ?_
      refine Raf (jn2 @e7 @hw1) (fun E K hE hK => ?_); refine hK _ _ _ ?_; clear hE hK K E
      refine ⟨rfl, l.length - (i + 1), by omega, i + 1, by omega, rfl, rfl, by exact Ecf @e0, by exact Ecf @e5, by exact Ecf @e6, by exact Er, ?_⟩
      intro p hp
      rw [List.take_add_one, List.getElem?_eq_getElem hi2] at hp
      rcases List.mem_append.1 hp with hp | hp
      · exact hok p hp
      · simp at hp; subst hp; omega
  · refine Bff @hlt ?_
    refine AWP.exit ?_
    refine Ev ?_
    have hil : i = l.length := by omega
    subst hil
    rw [List.take_length] at hok
    refine Rkf @e0 ?_
    refine AWP.ret ?_
    refine fin _ _ (decide ((l.length : Int) ≤ 30)) (by exact Er) ?_
    unfold fewN
    rw [List.all_eq_true.2 (fun p hp => decide_eq_true (hok p hp)), Bool.true_and]
    exact decide_eq_decide.2 (by omega)
def fewD (l : List Dn) : Bool := l.all (fun d => fewN d.names) && (decide (l.length ≤ 30) || (decide (1024 ≤ l.length) && decide (l.length ≤ 1026)))
def fewDI (l : List Dn) (h : Heap) (b i : Nat) (st : St) : Prop :=
  (∀ id, id < b → st.h id = h id) ∧ st.t 0 = DonesV l ∧ st.t 5 = DonesV l ∧ st.t 6 = IntV l.length ∧ st.t 7 = IntV (i : Nat) ∧ ∀ d ∈ l.take i, fewN d.names = true
end Go.Proofs.YtihgnpboabpchaaGreatDoor
namespace Go.Proofs
set_option linter.unusedSimpArgs false
set_option linter.unusedVariables false
set_option linter.unnecessarySimpa false
open Go Go.RowKit
set_option maxRecDepth 100000
end Go.Proofs
namespace Go.Proofs.YtihgnpboabpchaaGreatDoor
set_option linter.unusedSimpArgs false
set_option linter.unusedVariables false
set_option linter.unnecessarySimpa false
open Go Am
set_option maxRecDepth 100000
theorem Am.ACalls.rowFrz {P : Program} {f : FuncId} {args : List AV} {h : Heap} {b sz : Nat} {es : List (List PD)} (c : ACalls P f args h b 1 (rowR sz es h b)) (ho : okEs sz es) : ACalls P f args h b 0 (fun r h' => r = .one (.p (.sl sz es)) ∧ h' = h) := by
  intro ι w vs hb hh ha
  refine (ACalls.freeze c ?_) ι w vs hb hh ha
  rintro r h' ⟨ver, cap, T, h1, h2, h3, rfl, rfl⟩
  refine ⟨_, .one (frz_row0 (Nat.le_refl _) (upd_same _ _ _) ho), ⟨rfl, ?_⟩, fun id hid blk e c hc => ?_⟩
  · exact lowH_eq (fun id hid => by rw [upd_ne _ _ _ _ (by omega)]) hb
  · rw [upd_ne _ _ _ _ (by omega)] at e
    exact hh.lowCells id blk e c hc
theorem same_cell {L : List Cell} {k : Nat} {c : Cell} (h : L[k]? = some c) : List.take k L ++ c :: List.drop (k + 1) L = L := by
  have hk := (List.getElem?_eq_some_iff.1 h)
  obtain ⟨hlt, he⟩ := hk
  rw [← he, ← List.drop_eq_getElem_cons hlt, List.take_append_drop]
def ownI (l : List Dn) (ver cap : Nat) (T : List Cell) (h : Heap) (b i : Nat) (st : St) : Prop :=
  st.h b = some (rowB ver (l.map encD) T) ∧ (∀ id, id < b → st.h id = h id) ∧ st.t 0 = .one (.win b ver 0 l.length cap) ∧ st.t 7 = .one (.win b ver 0 l.length cap) ∧ st.t 8 = IntV l.length ∧ st.t 9 = IntV (i : Nat)
end Go.Proofs.YtihgnpboabpchaaGreatDoor
namespace Go.Proofs.YtihgnpboabpchaaGreatDoor
set_option linter.unusedSimpArgs false
set_option linter.unusedVariables false
set_option linter.unnecessarySimpa false
open Go Am
set_option maxRecDepth 100000
def i64F (f : Fl) : Prop := (-9223372036854775808 ≤ f.blk ∧ f.blk ≤ 9223372036854775807) ∧ (-9223372036854775808 ≤ f.frm ∧ f.frm ≤ 9223372036854775807) ∧ (-9223372036854775808 ≤ f.len ∧ f.len ≤ 9223372036854775807)
theorem mayF_ok (f : Fl) (h : Heap) (b : Nat) : ACalls Tryz.prog 136 [FlV f] h b 0 (fun r h' => r = BoolV (mayF f) ∧ h' = h) := by
  refine ACalls.enter Tryz.func136 rfl (by simp [Tryz.ntmps136]) (fun ι w hn H => ?_)
  have fin : ∀ (t : Nat → AV) (hh : Heap) (n : Nat) (v : Bool), t 2 = BoolV v → (∀ id, id < b → hh id = h id) → v = mayF f → Am.Ends Tryz.prog ⟨Tryz.f136.ntmps, b, ι, h, w, x0⟩ Tryz.f136 0 (fun r h' => r = BoolV (mayF f) ∧ h' = h) ⟨t, hh, n⟩ := by
    intro t hh n v ht ho hv
    exact Ends.pure hn H ho (r0 := BoolV v) (by rw [show Tryz.f136.results.toList = [.tmp 2] from rfl]; exact Ecf @ht) (.v _) ⟨by rw [hv], rfl⟩
  refine Rk ?_
  by_cases c1 : 0 ≤ f.blk
  case neg =>
    refine Rkf @c1 ?_
    refine AWP.ret ?_
    exact fin _ _ _ false (by exact Er) Ou (by unfold mayF; simp [c1])
  by_cases c2 : f.blk ≤ 8192
  case neg =>
    refine Rkf (jn2 @c1 @c2) ?_
    refine AWP.ret ?_
    exact fin _ _ _ false (by exact Er) Ou (by unfold mayF; simp [c2])
  by_cases c3 : 0 ≤ f.frm
  case neg =>
    refine Rkf (jn3 @c1 @c2 @c3) ?_
    refine AWP.ret ?_
    exact fin _ _ _ false (by exact Er) Ou (by unfold mayF; simp [c3])
  by_cases c4 : f.frm ≤ 65536
  case neg =>
    refine Rkf (jn4 @c1 @c2 @c3 @c4) ?_
    refine AWP.ret ?_
    exact fin _ _ _ false (by exact Er) Ou (by unfold mayF; simp [c4])
  by_cases c5 : 0 ≤ f.len
  case neg =>
    refine Rkf (jn5 @c1 @c2 @c3 @c4 @c5) ?_
    refine AWP.ret ?_
    exact fin _ _ _ false (by exact Er) Ou (by unfold mayF; simp [c5])
  have hw : IntKind.i64.wrap (65536 - f.frm) = 65536 - f.frm := wrap_i64 (by omega) (by omega)
  by_cases c6 : f.len ≤ 65536 - f.frm
  case neg =>
    refine Rkf (jn7 @c1 @c2 @c3 @c4 @c5 @c6 @hw) ?_
    refine AWP.ret ?_
    exact fin _ _ _ false (by exact Er) Ou (by unfold mayF; simp [c6])
  refine Rgf (jn7 @c1 @c2 @c3 @c4 @c5 @c6 @hw) (fun E K hE hK => ?_)
  refine Us (Check_ok (mkS f.name) _ _) body_31 ?_
  refine Evf @mkS_list ?_
  refine hK _ _ _ ?_; clear hE hK K E
  refine AWP.ret ?_
  exact fin _ _ _ (decide (chkN f.name = 0)) (by exact Er) Ou (by unfold mayF; simp [c1, c2, c3, c4, c5, c6])
theorem order_ok (f : Fl) (p : S) (h : Heap) (b : Nat) : ACalls Tryz.prog 137 [FlV f, StrV p] h b 0 (fun r h' => r = IntV (cmpN f.name p).1 ∧ h' = h) := by
  refine ACalls.enter Tryz.func137 rfl (by simp [Tryz.ntmps137]) (fun ι w hn H => ?_)
  refine Rk ?_
  refine Rg (fun E K hE hK => ?_)
  refine Us (Cmp_ok (mkS f.name) (mkS p) _ _) body_119 ?_
  refine Evf @mkS_list ?_
  refine hK _ _ _ ?_; clear hE hK K E
  refine Rk ?_
  refine AWP.ret ?_
  exact Ends.pure hn H Ou (r0 := IntV (cmpN f.name p).1) (by rw [show Tryz.f137.results.toList = [.tmp 4] from rfl]; exact Er) (.v _) ⟨rfl, rfl⟩
def prevN (l : List Fl) (i : Nat) : Option S := if i = 0 then none else (l[i - 1]?).map Fl.name
def tCkI (l : List Fl) (h : Heap) (b i : Nat) (st : St) : Prop :=
  (∀ id, id < b → st.h id = h id) ∧ st.t 0 = FlsV l ∧ st.t 8 = FlsV l ∧ st.t 9 = IntV l.length ∧ st.t 10 = IntV (i : Nat) ∧ tabF none l = tabF (prevN l i) (l.drop i) ∧ ∀ f ∈ l.take i, mayF f = true
theorem tCheck_ok (l : List Fl) (hl : l.length ≤ 1000000) (h : Heap) (b : Nat) : ACalls Tryz.prog 85 [FlsV l] h b 0 (fun r h' => r = IntV (checkT l) ∧ h' = h) := by
  refine ACalls.enter Tryz.func85 rfl (by simp [Tryz.ntmps85]) (fun ι w hn H => ?_)
  have hlow := H.lowCells
  have hlm : (l.map encF).length = l.length := List.length_map _
  have fin : ∀ (t : Nat → AV) (hh : Heap) (n : Nat) (v : Int), t 2 = IntV v → (∀ id, id < b → hh id = h id) → v = checkT l → Am.Ends Tryz.prog ⟨Tryz.f85.ntmps, b, ι, h, w, x0⟩ Tryz.f85 0 (fun r h' => r = IntV (checkT l) ∧ h' = h) ⟨t, hh, n⟩ := by
    intro t hh n v ht ho hv
    exact Ends.pure hn H ho (r0 := IntV v) (by rw [show Tryz.f85.results.toList = [.tmp 2] from rfl]; exact Ecf @ht) (.v _) ⟨by rw [hv], rfl⟩
  refine Rk ?_
  refine AWP.seq ?_
  by_cases c0 : (256 : Int) < l.length
  · refine Rkf (jn2 @hlm @c0) ?_
    refine Bt ?_
    refine Rk ?_
    refine AWP.ret ?_
    refine Ev ?_
    exact fin _ _ _ 1 (by exact Er) Ou (by unfold checkT; rw [if_pos (by omega)])
  have hcx : checkT l = if tabF none l = true then 0 else 1 := by unfold checkT; rw [if_neg (by omega)]
  refine Rkf (jn2 @hlm @c0) ?_
  refine Bs ?_
  refine AWP.seq ?_
  refine Rkf @hlm ?_
  refine AWP.block ?_
  refine AWP.loopM 0 (fun m st => ∃ i, i ≤ l.length ∧ m = l.length - i ∧ tCkI l h b i st) l.length rfl ⟨0, Nat.zero_le _, rfl, Ou, by exact Er, by exact Er, by exact Er, by exact Er, rfl, by simp⟩ ?_
  rintro m ⟨t, hh, n⟩ ⟨i, hi, rfl, ho, e0, e8, e9, e10, hc, hmay⟩ hn1
  simp only at ho e0 e8 e9 e10 hn1
  subst hn1
  refine Rkf (jn2 @e9 @e10) ?_
  refine AWP.seq ?_
  by_cases hlt : (i : Int) < l.length
  · have hw1 : IntKind.i64.wrap ((i : Int) + 1) = ((i + 1 : Nat) : Int) := by rw [wrap_i64 (by omega) (by omega)]; rfl
    have hi2 : i < l.length := by omega
    have hge := encF_getD l i hi2
    obtain ⟨f, hf⟩ : ∃ f, l[i] = f := ⟨_, rfl⟩
    have hdr : l.drop i = f :: l.drop (i + 1) := by rw [List.drop_eq_getElem_cons hi2, hf]
    have hpn : prevN l (i + 1) = some f.name := by unfold prevN; rw [if_neg (by omega), Nat.add_sub_cancel, List.getElem?_eq_getElem hi2, hf]; rfl
    rw [hf] at hge
    have hc2 : tabF none l = (mayF f && (aheadF (prevN l i) f.name && tabF (some f.name) (l.drop (i + 1)))) := by rw [hc, hdr]; rfl
    have hnext : mayF f = true → aheadF (prevN l i) f.name = true → tabF none l = tabF (prevN l (i + 1)) (l.drop (i + 1)) := by
      intro g1 g2; rw [hc2, g1, g2, hpn]; rfl
    have hmay2 : mayF f = true → ∀ x ∈ l.take (i + 1), mayF x = true := by
      intro g x hx
      rw [List.take_add_one, List.getElem?_eq_getElem hi2, hf] at hx
      rcases List.mem_append.1 hx with hx | hx
      · exact hmay x hx
      · simp at hx; subst hx; exact g
    have bad : tabF none l = false → 1 = checkT l := fun e => by rw [hcx, e]; rfl
    refine Btf @hlt ?_
    refine AWP.skip ?_
    refine Ev ?_
    refine AWP.seq ?_
    refine AWP.block ?_
    refine Rgf (jn5 @e8 @e10 @hlm @hlt @hge) (fun E K hE hK => ?_)
    refine ⟨by omega, ?_⟩
    refine hK _ _ _ ?_; clear hE hK K E
    cases c1 : mayF f
    · refine AWP.seqRegDG [] [] [] mixed (drawF_ok (by kernel_rfl)) (by kernel_rfl) (fun K hK => ?_); simp -implicitDefEqProofs only [go_sem, ↓reduceIte, Nat.reduceEqDiff, Nat.reduceAdd, Nat.reduceLT, Nat.reduceLeDiff, reduceCtorEq, Int.toNat_natCast, decide_true]
      refine Ud (mayF_ok f _ _) body_136 ?_
      try (refine Evf @c1 ?_)
      repeat (first | (refine Gd 18 ?_) | (refine Gd 21 ?_) | (refine ⟨by omega, ?_⟩))
      refine hK _ _ _ ?_; clear hK K
      refine Bt ?_
      refine Rk ?_
      refine AWP.ret ?_
      refine Ev ?_
      exact fin _ _ _ 1 (by exact Er) (Ouf @ho) (bad (by rw [hc2, c1]; rfl))
    by_cases h0 : i = 0
    · have h0' : ¬ (0 : Int) < i := by omega
      refine AWP.seqRegDG [] [] [] mixed (drawF_ok (by kernel_rfl)) (by kernel_rfl) (fun K hK => ?_); simp -implicitDefEqProofs only [go_sem, ↓reduceIte, Nat.reduceEqDiff, Nat.reduceAdd, Nat.reduceLT, Nat.reduceLeDiff, reduceCtorEq, Int.toNat_natCast, h0']
      refine Ud (mayF_ok f _ _) body_136 ?_
      try (refine Evf @c1 ?_)
      repeat (first | (refine Gdf 18 @h0' ?_) | (refine Gdf 21 @h0' ?_) | (refine ⟨by omega, ?_⟩))
      refine hK _ _ _ ?_; clear hK K
      refine Bf ?_
      refine AWP.skip ?_
      refine Ev ?_
      refine Raf (jn2 @e10 @hw1) (fun E K hE hK => ?_); refine hK _ _ _ ?_; clear hE hK K E
      exact ⟨l.length - (i + 1), by omega, i + 1, by omega, rfl, cutH_outer (Nat.le_refl _) (Ouf @ho) hlow, by exact Ecf @e0, by exact Ecf @e8, by exact Ecf @e9, by exact Er, hnext c1 (by unfold prevN; rw [if_pos h0]; rfl), hmay2 c1⟩
    have h0' : (0 : Int) < i := by omega
    have hi3 : i - 1 < l.length := by omega
    have hge2 := encF_getD l (i - 1) hi3
    have hwm : IntKind.i64.wrap ((i : Int) - 1) = ((i - 1 : Nat) : Int) := by rw [wrap_i64 (by omega) (by omega)]; omega
    have hlt2 : ((i - 1 : Nat) : Int) < l.length := by omega
    obtain ⟨g, hg⟩ : ∃ g, l[i - 1] = g := ⟨_, rfl⟩
    have hpi : prevN l i = some g.name := by unfold prevN; rw [if_neg h0, List.getElem?_eq_getElem hi3, hg]; rfl
    rw [hg] at hge2
    have hgm : mayF g = true := hmay g (by
      have : l[i - 1]? = (l.take i)[i - 1]? := by rw [List.getElem?_take, if_pos (by omega)]
      rw [List.getElem?_eq_getElem hi3, hg] at this
      exact List.mem_of_getElem? this.symm)
    have hcm : (cmpN g.name f.name).1 = cK g.name f.name := by rw [cmpN_ok (chkN_zero.1 (mayF_chk hgm)) (chkN_zero.1 (mayF_chk c1))]
    by_cases c3 : 0 ≤ cK g.name f.name
    · refine AWP.seqRegDG [] [] [] mixed (drawF_ok (by kernel_rfl)) (by kernel_rfl) (fun K hK => ?_); simp -implicitDefEqProofs only [go_sem, ↓reduceIte, Nat.reduceEqDiff, Nat.reduceAdd, Nat.reduceLT, Nat.reduceLeDiff, reduceCtorEq, Int.toNat_natCast, h0', e0, hwm, hlm, hlt2, hge2]
      refine Ud (mayF_ok f _ _) body_136 ?_
      try (refine Evf @c1 ?_)
      repeat (first | (refine Gdf 18 (jn6 @h0' @e0 @hwm @hlm @hlt2 @hge2) ?_) | (refine Gdf 21 (jn6 @h0' @e0 @hwm @hlm @hlt2 @hge2) ?_) | (refine ⟨by omega, ?_⟩))
      refine Ud (order_ok g f.name _ _) body_137 ?_
      try (refine Evf (jn2 @hcm @c3) ?_)
      repeat (first | (refine Gdf 18 (jn7 @h0' @e0 @hwm @hlm @hlt2 @hge2 @c3) ?_) | (refine Gdf 21 (jn7 @h0' @e0 @hwm @hlm @hlt2 @hge2 @c3) ?_) | (refine ⟨by omega, ?_⟩))
      refine hK _ _ _ ?_; clear hK K
      refine Bt ?_
      refine Rk ?_
      refine AWP.ret ?_
      refine Ev ?_
      exact fin _ _ _ 1 (by exact Er) (Ouf @ho) (bad (by rw [hc2, hpi]; show (mayF f && (decide (cK g.name f.name < 0) && _)) = false; rw [decide_eq_false (show ¬ cK g.name f.name < 0 by omega)]; simp))
    · refine AWP.seqRegDG [] [] [] mixed (drawF_ok (by kernel_rfl)) (by kernel_rfl) (fun K hK => ?_); simp -implicitDefEqProofs only [go_sem, ↓reduceIte, Nat.reduceEqDiff, Nat.reduceAdd, Nat.reduceLT, Nat.reduceLeDiff, reduceCtorEq, Int.toNat_natCast, h0', e0, hwm, hlm, hlt2, hge2]
      refine Ud (mayF_ok f _ _) body_136 ?_
      try (refine Evf @c1 ?_)
      repeat (first | (refine Gdf 18 (jn6 @h0' @e0 @hwm @hlm @hlt2 @hge2) ?_) | (refine Gdf 21 (jn6 @h0' @e0 @hwm @hlm @hlt2 @hge2) ?_) | (refine ⟨by omega, ?_⟩))
      refine Ud (order_ok g f.name _ _) body_137 ?_
      try (refine Evf (jn2 @hcm @c3) ?_)
      repeat (first | (refine Gdf 18 (jn7 @h0' @e0 @hwm @hlm @hlt2 @hge2 @c3) ?_) | (refine Gdf 21 (jn7 @h0' @e0 @hwm @hlm @hlt2 @hge2 @c3) ?_) | (refine ⟨by omega, ?_⟩))
      refine hK _ _ _ ?_; clear hK K
      refine Bf ?_
      refine AWP.skip ?_
      refine Ev ?_
      refine Raf (jn2 @e10 @hw1) (fun E K hE hK => ?_); refine hK _ _ _ ?_; clear hE hK K E
      exact ⟨l.length - (i + 1), by omega, i + 1, by omega, rfl, cutH_outer (Nat.le_refl _) (Ouf @ho) hlow, by exact Ecf @e0, by exact Ecf @e8, by exact Ecf @e9, by exact Er, hnext c1 (by rw [hpi]; unfold aheadF; simp only [decide_eq_true_eq]; omega), hmay2 c1⟩
  · refine Bff @hlt ?_
    refine AWP.exit ?_
    refine Ev ?_
    refine Rk ?_
    refine AWP.ret ?_
    refine fin _ _ _ 0 (by exact Er) ho ?_
    have : i = l.length := by omega
    subst this
    rw [hcx, hc, List.drop_length]
    cases prevN l l.length <;> rfl
end Go.Proofs.YtihgnpboabpchaaGreatDoor
namespace Go.Proofs.YtihgnpboabpchaaGreatDoor
set_option linter.unusedSimpArgs false
set_option linter.unusedVariables false
set_option linter.unnecessarySimpa false
open Go Am
set_option maxRecDepth 100000
def bsI (l : List Fl) (p : S) (h : Heap) (i j : Nat) (st : St) : Prop :=
  st.h = h ∧ st.t 0 = FlsV l ∧ st.t 1 = StrV p ∧ st.t 2 = .one (.clo (.func 137) [] []) ∧ st.t 8 = IntV l.length ∧ st.t 9 = IntV (i : Nat) ∧ st.t 10 = IntV (j : Nat)
theorem bsearch_ok (l : List Fl) (p : S) (hl : l.length ≤ 1000000) (ht : checkT l = 0) (hp : chkN p = 0) (h : Heap) (b : Nat) :
    ACalls Tryz.prog 195 [FlsV l, StrV p, .one (.clo (.func 137) [] [])] h b 0 (fun r h' => r = .tup [IntV (kL p l), BoolV (hasL p l)] ∧ h' = h) := by
  refine ACalls.enter Tryz.func195 rfl (by simp [Tryz.ntmps195]) (fun ι w hn H => ?_)
  have hlm : (l.map encF).length = l.length := List.length_map _
  have htab := (checkT_zero.1 ht).2
  have hkl := kL_le p l
  have hcmp : ∀ f ∈ l, (cmpN f.name p).1 = cK f.name p := fun f hf => by rw [cmpN_ok (chkN_zero.1 (mayF_chk (tabF_may htab f hf))) (chkN_zero.1 hp)]
  refine Rk ?_
  refine Rkf @hlm ?_
  refine Rkf @hlm ?_
  refine AWP.seq ?_
  refine AWP.block ?_
  refine AWP.loopK 0 (fun m st => ∃ i j, i ≤ kL p l ∧ kL p l ≤ j ∧ j ≤ l.length ∧ m = j - i ∧ bsI l p h i j st) l.length rfl ⟨0, l.length, Nat.zero_le _, hkl, Nat.le_refl _, rfl, rfl, by exact Er, by exact Er, by exact Er, by exact Er, by exact Er, by exact Er⟩ ?_
  rintro m ⟨t, hh, n⟩ ⟨i, j, hik, hkj, hj, rfl, rfl, e0, e1, e2, e8, e9, e10⟩ hn1
  simp only at e0 e1 e2 e8 e9 e10 hn1
  subst hn1
  refine AWP.seq ?_
  refine Rkf (jn2 @e9 @e10) ?_
  by_cases hlt : (i : Int) < j
  · refine Btf @hlt ?_
    refine AWP.skip ?_
    refine Ev ?_
    refine AWP.block ?_
    obtain ⟨c, hc⟩ : ∃ c, (i + j) / 2 = c := ⟨_, rfl⟩
    have hci : i ≤ c ∧ c < j := by omega
    have hsum : IntKind.i64.wrap ((i : Int) + j) = ((i + j : Nat) : Int) := by rw [wrap_i64 (by omega) (by omega)]; omega
    have hu : IntKind.u64.wrap ((i + j : Nat) : Int) = ((i + j : Nat) : Int) := IntWalk.u64_in _ ⟨by omega, by omega⟩
    have h10 : ¬ (1 : Int) < 0 := by decide
    have hfd : Int.fdiv ((i + j : Nat) : Int) (2 ^ min (Int.toNat 1) 64) = (c : Int) := by
      rw [← hc, show ((2 : Int) ^ min (Int.toNat 1) 64) = 2 from rfl, Int.fdiv_eq_ediv_of_nonneg _ (by decide)]; omega
    have hback : IntKind.i64.wrap (c : Int) = (c : Int) := wrap_i64 (by omega) (by omega)
    have hcl : c < l.length := by omega
    have hge := encF_getD l c hcl
    obtain ⟨f, hf⟩ : ∃ f, l[c] = f := ⟨_, rfl⟩
    rw [hf] at hge
    have hfm : f ∈ l := by rw [← hf]; exact List.getElem_mem hcl
    have hcm := hcmp f hfm
    have hlt3 : (c : Int) < l.length := by omega
    have hw1 : IntKind.i64.wrap ((c : Int) + 1) = ((c + 1 : Nat) : Int) := by rw [wrap_i64 (by omega) (by omega)]; rfl
    refine Rkf (jn7 @e9 @e10 @hsum @hu @h10 @hfd @hback) ?_
    refine Rgf (jn6 @e0 @e1 @e2 @hlm @hlt3 @hge) (fun E K hE hK => ?_)
    refine ⟨by omega, ?_⟩
    refine Us (order_ok f p _ _) body_137 ?_
    refine Evf @hcm ?_
    refine hK _ _ _ ?_; clear hE hK K E
    by_cases hneg : cK f.name p < 0
    · have hk : c < kL p l := by
        by_cases q : c < kL p l
        · exact q
        · exact absurd (by rw [hf]; exact hneg) (kL_hi (q := none) hcl htab (by omega))
      refine Btf @hneg ?_
      refine Raf @hw1 (fun E K hE hK => ?_); refine hK _ _ _ ?_; clear hE hK K E
      exact ⟨rfl, j - (c + 1), by omega, c + 1, j, by omega, by omega, by omega, rfl, rfl, by exact Ecf @e0, by exact Ecf @e1, by exact Ecf @e2, by exact Ecf @e8, by exact Er, by exact Ecf @e10⟩
    · have hk : kL p l ≤ c := by
        by_cases q : kL p l ≤ c
        · exact q
        · exact absurd (by have := kL_lo (p := p) hcl (by omega); rw [hf] at this; exact this) hneg
      refine Bff @hneg ?_
      refine Ra (fun E K hE hK => ?_); refine hK _ _ _ ?_; clear hE hK K E
      exact ⟨rfl, c - i, by omega, i, c, by omega, by omega, by omega, rfl, rfl, by exact Ecf @e0, by exact Ecf @e1, by exact Ecf @e2, by exact Ecf @e8, by exact Ecf @e9, by exact Er⟩
  · refine Bff @hlt ?_
    refine AWP.exit ?_
    refine Ev ?_
    have hij : i = kL p l := by omega
    subst hij
    have hfin : ∀ (t : Nat → AV) (n : Nat), t 6 = IntV (kL p l) → t 7 = BoolV (hasL p l) → Am.Ends Tryz.prog ⟨Tryz.f195.ntmps, b, ι, hh, w, x0⟩ Tryz.f195 0 (fun r h' => r = .tup [IntV (kL p l), BoolV (hasL p l)] ∧ h' = hh) ⟨t, hh, n⟩ := by
      intro t n g6 g7
      exact Ends.pure hn H (fun _ _ => rfl) (r0 := .tup [IntV (kL p l), BoolV (hasL p l)]) (by rw [show Tryz.f195.results.toList = [.tmp 6, .tmp 7] from rfl]; exact Ecf (jn2 @g6 @g7)) (frz_tup2 (.v _) (.v _)) ⟨rfl, rfl⟩
    by_cases hkn : ((kL p l : Nat) : Int) < l.length
    · have hk2 : kL p l < l.length := by omega
      have hge := encF_getD l (kL p l) hk2
      have hhas := hasL_k (p := p) (l := l)
      obtain ⟨f, hf⟩ : ∃ f, l[kL p l] = f := ⟨_, rfl⟩
      rw [hf] at hge
      have hfm : f ∈ l := by rw [← hf]; exact List.getElem_mem hk2
      have hcm := hcmp f hfm
      have hd : hasL p l = decide (cK f.name p = 0) := by
        rw [Bool.eq_iff_iff, hhas, decide_eq_true_eq]
        exact ⟨fun ⟨_, e⟩ => by rw [← hf]; exact e, fun e => ⟨hk2, by rw [hf]; exact e⟩⟩
      refine Rgf (jn2 @e0 (jn7 @e1 @e2 @e8 @e9 @hlm @hkn @hge)) (fun E K hE hK => ?_)
      refine ⟨by omega, ?_⟩
      refine Us (order_ok f p _ _) body_137 ?_
      refine Evf @hcm ?_
      refine hK _ _ _ ?_; clear hE hK K E
      refine AWP.ret ?_
      exact hfin _ _ (by exact Er) (by rw [hd]; exact Er)
    · have hd : hasL p l = false := by
        rw [← Bool.not_eq_true, hasL_k]
        rintro ⟨h1, _⟩; omega
      refine Rkf (jn7 @e0 @e1 @e2 @e8 @e9 @hlm @hkn) ?_
      refine AWP.ret ?_
      exact hfin _ _ (by exact Er) (by rw [hd]; exact Er)
def findR (l : List Fl) (p : S) : Nat × Bool × Int := if checkT l ≠ 0 ∨ chkN p ≠ 0 then (0, false, 1) else (kL p l, hasL p l, 0)
theorem find_ok (l : List Fl) (p : S) (hl : l.length ≤ 1000000) (h : Heap) (b : Nat) :
    ACalls Tryz.prog 155 [FlsV l, StrV p] h b 0 (fun r h' => r = .tup [IntV (findR l p).1, BoolV (findR l p).2.1, IntV (findR l p).2.2] ∧ h' = h) := by
  refine ACalls.enter Tryz.func155 rfl (by simp [Tryz.ntmps155]) (fun ι w hn H => ?_)
  have fin : ∀ (t : Nat → AV) (n : Nat) (v : Nat × Bool × Int), t 4 = IntV v.1 → t 5 = BoolV v.2.1 → t 6 = IntV v.2.2 → v = findR l p → Am.Ends Tryz.prog ⟨Tryz.f155.ntmps, b, ι, h, w, x0⟩ Tryz.f155 0 (fun r h' => r = .tup [IntV (findR l p).1, BoolV (findR l p).2.1, IntV (findR l p).2.2] ∧ h' = h) ⟨t, h, n⟩ := by
    intro t n v g4 g5 g6 hv
    exact Ends.pure hn H (fun _ _ => rfl) (r0 := .tup [IntV v.1, BoolV v.2.1, IntV v.2.2]) (by rw [show Tryz.f155.results.toList = [.tmp 4, .tmp 5, .tmp 6] from rfl]; exact Ecf (jn3 @g4 @g5 @g6)) (frz_tup3 (.v _) (.v _) (.v _)) ⟨by rw [hv], rfl⟩
  refine Rk ?_
  refine AWP.seq ?_
  by_cases c1 : checkT l = 0
  case neg =>
    refine Rg (fun E K hE hK => ?_)
    refine Us (tCheck_ok l hl _ _) body_85 ?_
    refine Evf @c1 ?_
    refine hK _ _ _ ?_; clear hE hK K E
    refine Bt ?_
    refine Rk ?_
    refine AWP.ret ?_
    refine Ev ?_
    exact fin _ _ (0, false, 1) (by exact Er) (by exact Er) (by exact Er) (by unfold findR; rw [if_pos (.inl c1)])
  by_cases c2 : chkN p = 0
  case neg =>
    refine Rg (fun E K hE hK => ?_)
    refine Us (tCheck_ok l hl _ _) body_85 ?_
    refine Evf @c1 ?_
    refine Us (Check_ok (mkS p) _ _) body_31 ?_
    refine Evf (jn2 @mkS_list @c2) ?_
    refine hK _ _ _ ?_; clear hE hK K E
    refine Bt ?_
    refine Rk ?_
    refine AWP.ret ?_
    refine Ev ?_
    exact fin _ _ (0, false, 1) (by exact Er) (by exact Er) (by exact Er) (by unfold findR; rw [if_pos (.inr c2)])
  refine Rg (fun E K hE hK => ?_)
  refine Us (tCheck_ok l hl _ _) body_85 ?_
  refine Evf @c1 ?_
  refine Us (Check_ok (mkS p) _ _) body_31 ?_
  refine Evf (jn2 @mkS_list @c2) ?_
  refine hK _ _ _ ?_; clear hE hK K E
  refine Bs ?_
  cases hhas : hasL p l
  all_goals
    refine Rg (fun E K hE hK => ?_)
    refine Us (bsearch_ok l p hl c1 c2 _ _) body_195 ?_
    refine Evf @hhas ?_
    refine hK _ _ _ ?_; clear hE hK K E
    refine Rk ?_
    refine AWP.ret ?_
    exact fin _ _ (kL p l, hasL p l, 0) (by exact Er) (by rw [hhas]; exact Er) (by exact Er) (by unfold findR; rw [if_neg (by simp [c1, c2])])
end Go.Proofs.YtihgnpboabpchaaGreatDoor
namespace Go.Proofs.YtihgnpboabpchaaGreatDoor
set_option linter.unusedSimpArgs false
set_option linter.unusedVariables false
set_option linter.unnecessarySimpa false
open Go Am
set_option maxRecDepth 100000
theorem clone_fl_ok (es : List (List PD)) (ho : okEs 6 es) (h : Heap) (b : Nat) (hl : es.length ≤ 1000000000) :
    ACalls Tryz.prog 78 [.one (.p (.sl 6 es))] h b 1 (rowR 6 es h b) := by
  refine ACalls.enter Tryz.func78 rfl (by simp [Tryz.ntmps78]) (fun ι w hn H => ?_)
  refine Rk ?_
  refine AWP.seq ?_
  refine Rg (fun E K hE hK => ?_)
  refine EqlR.nil_sl rfl (.inl rfl) (fun g hg => ?_)
  refine Ev ?_
  refine hK _ _ _ ?_; clear hE hK K E
  cases g
  · refine AWP.ifF (by exact Ec) ?_
    refine AWP.skip ?_
    refine Ev ?_
    refine Rg (fun E K hE hK => ?_)
    refine BiR.of ?_
    refine BiK.append_own (e := 82) (sz := 6) (bytes := 56) (m := es.length) (xs := es.flatten.map .p) ty_slE_60 ty_tsz_82 ty_tzero_82 rfl ty_tby_82 ty_isIntT_60 (upd_same _ _ _) rfl rfl (by simp [srcA]) (okEs_flat ho _) (by omega) (by decide) (by omega) (fun cap k h1 h2 => ?_)
    refine Ev ?_
    refine hK _ _ _ ?_; clear hE hK K E
    refine AWP.ret ?_
    refine Ev ?_
    refine Ends.row (id := b) (blk := ⟨1, es.flatten.map .p ++ List.replicate k .junk⟩) hn H (lowEq_upd (Nat.le_refl _) (fun _ _ => rfl)) (Nat.le_refl _) (upd_same _ _ _) (lowCs_app (lowCs_p _ _) (lowCs_junk _ _))
      (by rw [show Tryz.f78.results.toList = [.tmp 2] from rfl]; exact Ec) (renV.win0 _ _ _ _) ⟨1, cap, List.replicate k .junk, by omega, by rw [List.length_replicate]; omega, lowCs_junk _ _, rfl, rfl⟩
  · have he := hg rfl
    subst he
    refine AWP.ifT (by exact Ec) ?_
    refine Rk ?_
    refine AWP.virt 2 (by exact Ec) ?_
    refine AWP.ret ?_
    refine Ev ?_
    refine Ends.row (id := b) (blk := ⟨0, []⟩) hn H (lowEq_upd (Nat.le_refl _) (fun _ _ => rfl)) (Nat.le_refl _) (upd_same _ _ _) rfl
      (by rw [show Tryz.f78.results.toList = [.tmp 2] from rfl]; exact Ec) (renV.win0 _ _ _ _) ⟨0, 0, [], Nat.le_refl _, rfl, rfl, rfl, rfl⟩
end Go.Proofs.YtihgnpboabpchaaGreatDoor
namespace Go.Proofs.YtihgnpboabpchaaGreatDoor
set_option linter.unusedSimpArgs false
set_option linter.unusedVariables false
set_option linter.unnecessarySimpa false
open Go Am
set_option maxRecDepth 100000
end Go.Proofs.YtihgnpboabpchaaGreatDoor
namespace Go.Proofs.YtihgnpboabpchaaGreatDoor
set_option linter.unusedSimpArgs false
set_option linter.unusedVariables false
set_option linter.unnecessarySimpa false
open Go Am
set_option maxRecDepth 100000
end Go.Proofs.YtihgnpboabpchaaGreatDoor
namespace Go.Proofs.YtihgnpboabpchaaGreatDoor
set_option linter.unusedSimpArgs false
set_option linter.unusedVariables false
set_option linter.unnecessarySimpa false
open Go Am
set_option maxRecDepth 100000
end Go.Proofs.YtihgnpboabpchaaGreatDoor
namespace Go.Proofs.YtihgnpboabpchaaGreatDoor
set_option linter.unusedSimpArgs false
set_option linter.unusedVariables false
set_option linter.unnecessarySimpa false
open Go Am
set_option maxRecDepth 100000
def zeroF : Fl := ⟨[], 0, 0, 0, 0, 0⟩
def getR (l : List Fl) (p : S) : Fl × Int := if checkT l ≠ 0 ∨ chkN p ≠ 0 then (zeroF, 1) else if hasL p l = true then (l.getD (kL p l) zeroF, 0) else (zeroF, 4)
theorem Get_ok (l : List Fl) (p : S) (hl : l.length ≤ 1000000) (h : Heap) (b : Nat) :
    ACalls Tryz.prog 112 [FlsV l, StrV p] h b 0 (fun r h' => r = .tup [FlV (getR l p).1, IntV (getR l p).2] ∧ h' = h) := by
  refine ACalls.enter Tryz.func112 rfl (by simp [Tryz.ntmps112]) (fun ι w hn H => ?_)
  have hlm : (l.map encF).length = l.length := List.length_map _
  have hz : (ByteArray.empty : ByteArray) = mkS [] := rfl
  have frzF : ∀ (hh : Heap) (f : Fl), frzV hh b (FlV f) (FlV f) := fun hh f => .agg rfl (by
    intro i c d hc hd
    have : c = d := Option.some.inj (hc.symm.trans hd)
    subst this
    obtain ⟨x, _, rfl⟩ := List.mem_map.1 (List.mem_of_getElem? hc)
    exact .inl ⟨rfl, rfl⟩)
  have fin : ∀ (t : Nat → AV) (hh : Heap) (n : Nat) (v : Fl × Int), t 4 = .one (.ptr b 0 0) → hh b = some ⟨0, (encF v.1).map .p⟩ → t 5 = IntV v.2 → (∀ id, id < b → hh id = h id) → v = getR l p → Am.Ends Tryz.prog ⟨Tryz.f112.ntmps, b, ι, h, w, x0⟩ Tryz.f112 0 (fun r h' => r = .tup [FlV (getR l p).1, IntV (getR l p).2] ∧ h' = h) ⟨t, hh, n⟩ := by
    intro t hh n v ht hb ht2 ho hv
    exact Ends.pure hn H ho (r0 := .tup [FlV v.1, IntV v.2]) (by rw [show Tryz.f112.results.toList = [.cell 4 82, .tmp 5] from rfl]; (first | (simp -implicitDefEqProofs only [go_sem, ↓reduceIte, Nat.reduceEqDiff, Nat.reduceAdd, Nat.reduceLT, Nat.reduceLeDiff, reduceCtorEq, Int.toNat_natCast, ht, hb, ht2, encF]; first | done | rfl) | rfl)) (frz_tup2 (frzF _ _) (.v _)) ⟨by rw [hv], rfl⟩
  refine Rk ?_
  by_cases hbad : checkT l ≠ 0 ∨ chkN p ≠ 0
  · have hfr : findR l p = (0, false, 1) := by unfold findR; rw [if_pos hbad]
    refine Rg (fun E K hE hK => ?_)
    refine Us (find_ok l p hl _ _) body_155 ?_
    refine Evf @hfr ?_
    refine hK _ _ _ ?_; clear hE hK K E
    refine AWP.seq ?_
    refine AWP.block ?_
    refine Rk ?_
    refine Bt ?_
    refine Rk ?_
    refine AWP.ret ?_
    refine Ev ?_
    exact fin _ _ _ (zeroF, 1) (by exact Er) (by exact Er) (by exact Er) Ou (by unfold getR; rw [if_pos hbad])
  have hfr : findR l p = (kL p l, hasL p l, 0) := by unfold findR; rw [if_neg hbad]
  cases hhas : hasL p l
  · refine Rg (fun E K hE hK => ?_)
    refine Us (find_ok l p hl _ _) body_155 ?_
    refine Evf (jn2 @hfr @hhas) ?_
    refine hK _ _ _ ?_; clear hE hK K E
    refine AWP.seq ?_
    refine AWP.block ?_
    refine Rk ?_
    refine Bf ?_
    refine Rk ?_
    refine Bt ?_
    refine Rk ?_
    refine AWP.ret ?_
    refine Ev ?_
    exact fin _ _ _ (zeroF, 4) (by exact Er) (by exact Er) (by exact Er) Ou (by unfold getR; rw [if_neg hbad, if_neg (by simp [hhas])])
  · obtain ⟨hk, hk2⟩ := hasL_k.1 hhas
    have hkn : ((kL p l : Nat) : Int) < l.length := by omega
    have hge := encF_getD l (kL p l) hk
    have hgd : l.getD (kL p l) zeroF = l[kL p l] := by simp [List.getD, hk]
    refine Rg (fun E K hE hK => ?_)
    refine Us (find_ok l p hl _ _) body_155 ?_
    refine Evf (jn2 @hfr @hhas) ?_
    refine hK _ _ _ ?_; clear hE hK K E
    refine AWP.seq ?_
    refine AWP.block ?_
    refine Rk ?_
    refine Bf ?_
    refine Rk ?_
    refine Bf ?_
    refine AWP.skip ?_
    refine Ev ?_
    refine Rgf (jn3 @hlm @hkn @hge) (fun E K hE hK => ?_)
    refine ⟨by omega, ?_⟩
    refine hK _ _ _ ?_; clear hE hK K E
    refine AWP.ret ?_
    exact fin _ _ _ (l[kL p l], 0) (by exact Er) (by exact Er) (by exact Er) Ou (by unfold getR; rw [if_neg hbad, if_pos hhas, hgd])
def fewT (l : List Fl) : Bool := l.all (fun f => decide (f.name.length ≤ 200)) && (decide (l.length ≤ 30) || (decide (256 ≤ l.length) && decide (l.length ≤ 258)))
def fewTI (l : List Fl) (h : Heap) (b i : Nat) (st : St) : Prop :=
  (∀ id, id < b → st.h id = h id) ∧ st.t 0 = FlsV l ∧ st.t 5 = FlsV l ∧ st.t 6 = IntV l.length ∧ st.t 7 = IntV (i : Nat) ∧ ∀ f ∈ l.take i, f.name.length ≤ 200
theorem fewT_ok (l : List Fl) (hl : l.length ≤ 9223372036854775807) (h : Heap) (b : Nat) : ACalls Tryz.prog 55 [FlsV l] h b 0 (fun r h' => r = BoolV (fewT l) ∧ h' = h) := by
  refine ACalls.enter Tryz.func55 rfl (by simp [Tryz.ntmps55]) (fun ι w hn H => ?_)
  have hlow := H.lowCells
  have hlm : (l.map encF).length = l.length := List.length_map _
  have fin : ∀ (t : Nat → AV) (hh : Heap) (n : Nat) (v : Bool), t 2 = BoolV v → (∀ id, id < b → hh id = h id) → v = fewT l → Am.Ends Tryz.prog ⟨Tryz.f55.ntmps, b, ι, h, w, x0⟩ Tryz.f55 0 (fun r h' => r = BoolV (fewT l) ∧ h' = h) ⟨t, hh, n⟩ := by
    intro t hh n v ht ho hv
    exact Ends.pure hn H ho (r0 := BoolV v) (by rw [show Tryz.f55.results.toList = [.tmp 2] from rfl]; exact Ecf @ht) (.v _) ⟨by rw [hv], rfl⟩
  refine Rk ?_
  refine AWP.seq ?_
  refine Rkf @hlm ?_
  refine AWP.block ?_
  refine AWP.loopM 0 (fun m st => ∃ i, i ≤ l.length ∧ m = l.length - i ∧ fewTI l h b i st) l.length rfl ⟨0, Nat.zero_le _, rfl, Ou, by exact Er, by exact Er, by exact Er, by exact Er, by simp⟩ ?_
  rintro m ⟨t, hh, n⟩ ⟨i, hi, rfl, ho, e0, e5, e6, e7, hok⟩ hn1
  simp only at ho e0 e5 e6 e7 hn1
  subst hn1
  refine Rkf (jn2 @e6 @e7) ?_
  refine AWP.seq ?_
  by_cases hlt : (i : Int) < l.length
  · have hw1 : IntKind.i64.wrap ((i : Int) + 1) = ((i + 1 : Nat) : Int) := by rw [wrap_i64 (by omega) (by omega)]; rfl
    have hi2 : i < l.length := by omega
    have hge := encF_getD l i hi2
    obtain ⟨f, hf⟩ : ∃ f, l[i] = f := ⟨_, rfl⟩
    have hfm : f ∈ l := by rw [← hf]; exact List.getElem_mem hi2
    rw [hf] at hge
    have hsz := mkS_size f.name
    refine Btf @hlt ?_
    refine AWP.skip ?_
    refine Ev ?_
    refine AWP.seq ?_
    refine AWP.block ?_
    refine Rgf (jn5 @e5 @e7 @hlm @hlt @hge) (fun E K hE hK => ?_)
    refine ⟨by omega, ?_⟩
    refine hK _ _ _ ?_; clear hE hK K E
    by_cases c1 : (200 : Int) < f.name.length
    · refine Rkf (jn2 @hsz @c1) ?_
      refine Bt ?_
      refine Rk ?_
      refine AWP.ret ?_
      refine Ev ?_
      refine fin _ _ _ false (by exact Er) (Ouf @ho) ?_
      symm
      unfold fewT
      rw [Bool.and_eq_false_iff]
      left
      rw [← Bool.not_eq_true, List.all_eq_true]
      intro hall
      have := hall f hfm
      simp only [decide_eq_true_eq] at this
      omega
    · refine Rkf (jn2 @hsz @c1) ?_
      refine Bf ?_
      refine AWP.skip ?_
      refine Ev ?_
      refine Raf (jn2 @e7 @hw1) (fun E K hE hK => ?_); refine hK _ _ _ ?_; clear hE hK K E
      exact ⟨l.length - (i + 1), by omega, i + 1, by omega, rfl, cutH_outer (Nat.le_refl _) (Ouf @ho) hlow, by exact Ecf @e0, by exact Ecf @e5, by exact Ecf @e6, by exact Er, fun x hx => by
        rw [List.take_add_one, List.getElem?_eq_getElem hi2, hf] at hx
        rcases List.mem_append.1 hx with hx | hx
        · exact hok x hx
        · simp at hx; subst hx; omega⟩
  · refine Bff @hlt ?_
    refine AWP.exit ?_
    refine Ev ?_
    have hil : i = l.length := by omega
    subst hil
    rw [List.take_length] at hok
    have hall : l.all (fun f => decide (f.name.length ≤ 200)) = true := by rw [List.all_eq_true]; intro x hx; simpa using hok x hx
    have hfw : fewT l = (decide (l.length ≤ 30) || (decide (256 ≤ l.length) && decide (l.length ≤ 258))) := by unfold fewT; rw [hall, Bool.true_and]
    by_cases c1 : (l.length : Int) ≤ 30
    · refine Rkf (jn3 @e0 @hlm @c1) ?_
      refine AWP.ret ?_
      exact fin _ _ _ true (by exact Er) ho (by rw [hfw, decide_eq_true (by omega)]; rfl)
    by_cases c2 : (256 : Int) ≤ l.length
    · refine Rkf (jn4 @e0 @hlm @c1 @c2) ?_
      refine AWP.ret ?_
      refine fin _ _ _ (decide ((l.length : Int) ≤ 258)) (by exact Er) ho ?_
      rw [hfw, decide_eq_false (show ¬ l.length ≤ 30 by omega), decide_eq_true (show 256 ≤ l.length by omega), Bool.false_or, Bool.true_and]
      exact decide_eq_decide.2 (by omega)
    · refine Rkf (jn4 @e0 @hlm @c1 @c2) ?_
      refine AWP.ret ?_
      exact fin _ _ _ false (by exact Er) ho (by rw [hfw, decide_eq_false (show ¬ l.length ≤ 30 by omega), decide_eq_false (show ¬ 256 ≤ l.length by omega)]; rfl)
def ownT (P : List Fl × Int) (h : Heap) (b : Nat) (r : AV) (h' : Heap) : Prop :=
  ∃ ver cap T, P.1.length ≤ cap ∧ cap * 6 = P.1.length * 6 + T.length ∧ lowCs 0 T = true ∧ r = .tup [.one (.win b ver 0 P.1.length cap), IntV P.2] ∧ h' = upd h b (rowB ver (P.1.map encF) T)
end Go.Proofs.YtihgnpboabpchaaGreatDoor
namespace Go.Proofs.YtihgnpboabpchaaGreatDoor
set_option linter.unusedSimpArgs false
set_option linter.unusedVariables false
set_option linter.unnecessarySimpa false
open Go Am
set_option maxRecDepth 100000
abbrev F64V (b : Nat) : AV := .one (.p (.v (.float .f64 b)))
theorem bits_run (args : Array Value) (w : World) : (callFunc 152 args).run Tryz.prog w = ((Extern.MathFloatBits.float64bits args).run Tryz.prog w).andThen fun v w' => .ok (.value v) w' :=
  run_callFunc_extern (fn := Tryz.f152) Tryz.func152 (by kernel_rfl) (by kernel_rfl) (by kernel_rfl) (e := Extern.MathFloatBits.float64bits) (by kernel_rfl) args w
theorem bits_ext {C : Ctx} {h : Heap} {n : Nat} {K : KT} {x : Nat} (k : K (.one (.p (.v (.int .u64 (x : Nat))))) h n) : ExtK Tryz.prog C 152 [F64V x] h n K := by
  intro a w ι Vs I hVs
  obtain ⟨hlen, hVs⟩ := hVs
  match Vs, hlen with
  | [X], _ =>
    have hX := rav_v_inv (hVs 0 _ X rfl rfl)
    subst hX
    refine ⟨.int .u64 x, w, _, h, n, ι, ?_, k, I, rav_v _, .refl _ _ _ _⟩
    rw [bits_run]
    rfl
theorem isNaN64_ok (x : Nat) (h : Heap) (b : Nat) : ACalls Tryz.prog 80 [F64V x] h b 0 (fun r h' => r = BoolV (FloatKind.f64.format.order x x != some .eq) ∧ h' = h) := by
  refine ACalls.enter Tryz.func80 rfl (by simp [Tryz.ntmps80]) (fun ι w hn H => ?_)
  refine Rk ?_
  refine Rk ?_
  refine AWP.ret ?_
  exact Ends.pure hn H (fun _ _ => rfl) (r0 := BoolV (FloatKind.f64.format.order x x != some .eq)) (by rw [show Tryz.f80.results.toList = [.tmp 2] from rfl]; exact Er) (.v _) ⟨rfl, rfl⟩
theorem signbit_ok (x : Nat) (h : Heap) (b : Nat) : ACalls Tryz.prog 153 [F64V x] h b 0 (fun r h' => r = BoolV (decide (IntKind.i64.wrap (x : Int) < 0)) ∧ h' = h) := by
  refine ACalls.enter Tryz.func153 rfl (by simp [Tryz.ntmps153]) (fun ι w hn H => ?_)
  refine Rk ?_
  refine Rg (fun E K hE hK => ?_)
  refine CallR.ext (bits_ext ?_)
  refine Ev ?_
  refine hK _ _ _ ?_; clear hE hK K E
  refine AWP.ret ?_
  exact Ends.pure hn H (fun _ _ => rfl) (r0 := BoolV (decide (IntKind.i64.wrap (x : Int) < 0))) (by rw [show Tryz.f153.results.toList = [.tmp 2] from rfl]; exact Er) (.v _) ⟨rfl, rfl⟩
theorem h00 : (FloatKind.f64.format.order 0 0 == some .eq) = true := by decide
end Go.Proofs.YtihgnpboabpchaaGreatDoor
namespace Go.Proofs.YtihgnpboabpchaaGreatDoor
set_option linter.unusedSimpArgs false
set_option linter.unusedVariables false
set_option linter.unnecessarySimpa false
open Go Am
set_option maxRecDepth 100000
end Go.Proofs.YtihgnpboabpchaaGreatDoor
namespace Go.Proofs.YtihgnpboabpchaaGreatDoor
set_option linter.unusedSimpArgs false
set_option linter.unusedVariables false
set_option linter.unnecessarySimpa false
open Go Am
set_option maxRecDepth 100000
def keyR (x : Nat) : Int :=
  if (FloatKind.f64.format.order x x != some .eq) = true then 18446744073709551615
  else if IntKind.i64.wrap (x : Int) < 0 then IntKind.u64.wrap ((BitVec.ofInt IntKind.u64.bits (if IntKind.u64.signed then -1 else IntKind.u64.max) ^^^ BitVec.ofInt IntKind.u64.bits (x : Int)).toNat)
  else IntKind.u64.wrap ((BitVec.ofInt IntKind.u64.bits (x : Int) ||| BitVec.ofInt IntKind.u64.bits 9223372036854775808).toNat)
def keyD (x : Nat) : Int :=
  if (FloatKind.f64.format.order x x != some .eq) = true then 18446744073709551615
  else if (x : Int) < 9223372036854775808 then IntKind.u64.wrap ((x : Int) + 9223372036854775808)
  else IntKind.u64.wrap (18446744073709551615 - (x : Int))
theorem rKeyR_ok (x : Nat) (h : Heap) (b : Nat) : ACalls Tryz.prog 105 [F64V x] h b 0 (fun r h' => r = .one (.p (.v (.int .u64 (keyR x)))) ∧ h' = h) := by
  cases c1 : FloatKind.f64.format.order x x != some .eq
  · by_cases c2 : IntKind.i64.wrap (x : Int) < 0
    · rw [show keyR x = IntKind.u64.wrap ((BitVec.ofInt IntKind.u64.bits (if IntKind.u64.signed then -1 else IntKind.u64.max) ^^^ BitVec.ofInt IntKind.u64.bits (x : Int)).toNat) by unfold keyR; rw [if_neg (by rw [c1]; decide), if_pos c2]]
      refine ACalls.enter Tryz.func105 rfl (by simp [Tryz.ntmps105]) (fun ι w hn H => ?_)
      refine Rk ?_
      refine Rg (fun E K hE hK => ?_)
      refine CallR.ext (bits_ext ?_)
      refine Ev ?_
      refine hK _ _ _ ?_; clear hE hK K E
      refine AWP.seq ?_
      refine AWP.block ?_
      refine Rg (fun E K hE hK => ?_)
      refine Us (isNaN64_ok x _ _) body_80 ?_
      refine Evf @c1 ?_
      refine hK _ _ _ ?_; clear hE hK K E
      refine Bf ?_
      refine Rg (fun E K hE hK => ?_)
      refine Us (signbit_ok x _ _) body_153 ?_
      refine Evf @c2 ?_
      refine hK _ _ _ ?_; clear hE hK K E
      refine Bt ?_
      refine Rk ?_
      refine AWP.ret ?_
      refine Ev ?_
      exact Ends.pure hn H (fun _ _ => rfl) (r0 := .one (.p (.v (.int .u64 (IntKind.u64.wrap ((BitVec.ofInt IntKind.u64.bits (if IntKind.u64.signed then -1 else IntKind.u64.max) ^^^ BitVec.ofInt IntKind.u64.bits (x : Int)).toNat)))))) (by rw [show Tryz.f105.results.toList = [.tmp 2] from rfl]; exact Er) (.v _) ⟨rfl, rfl⟩
    · rw [show keyR x = IntKind.u64.wrap ((BitVec.ofInt IntKind.u64.bits (x : Int) ||| BitVec.ofInt IntKind.u64.bits 9223372036854775808).toNat) by unfold keyR; rw [if_neg (by rw [c1]; decide), if_neg c2]]
      refine ACalls.enter Tryz.func105 rfl (by simp [Tryz.ntmps105]) (fun ι w hn H => ?_)
      refine Rk ?_
      refine Rg (fun E K hE hK => ?_)
      refine CallR.ext (bits_ext ?_)
      refine Ev ?_
      refine hK _ _ _ ?_; clear hE hK K E
      refine AWP.seq ?_
      refine AWP.block ?_
      refine Rg (fun E K hE hK => ?_)
      refine Us (isNaN64_ok x _ _) body_80 ?_
      refine Evf @c1 ?_
      refine hK _ _ _ ?_; clear hE hK K E
      refine Bf ?_
      refine Rg (fun E K hE hK => ?_)
      refine Us (signbit_ok x _ _) body_153 ?_
      refine Evf @c2 ?_
      refine hK _ _ _ ?_; clear hE hK K E
      refine Bf ?_
      refine AWP.skip ?_
      refine Ev ?_
      refine Rk ?_
      refine AWP.ret ?_
      exact Ends.pure hn H (fun _ _ => rfl) (r0 := .one (.p (.v (.int .u64 (IntKind.u64.wrap ((BitVec.ofInt IntKind.u64.bits (x : Int) ||| BitVec.ofInt IntKind.u64.bits 9223372036854775808).toNat)))))) (by rw [show Tryz.f105.results.toList = [.tmp 2] from rfl]; exact Er) (.v _) ⟨rfl, rfl⟩
  · rw [show keyR x = 18446744073709551615 by unfold keyR; rw [if_pos c1]]
    refine ACalls.enter Tryz.func105 rfl (by simp [Tryz.ntmps105]) (fun ι w hn H => ?_)
    refine Rk ?_
    refine Rg (fun E K hE hK => ?_)
    refine CallR.ext (bits_ext ?_)
    refine Ev ?_
    refine hK _ _ _ ?_; clear hE hK K E
    refine AWP.seq ?_
    refine AWP.block ?_
    refine Rg (fun E K hE hK => ?_)
    refine Us (isNaN64_ok x _ _) body_80 ?_
    refine Evf @c1 ?_
    refine hK _ _ _ ?_; clear hE hK K E
    refine Bt ?_
    refine Rk ?_
    refine AWP.ret ?_
    refine Ev ?_
    exact Ends.pure hn H (fun _ _ => rfl) (r0 := .one (.p (.v (.int .u64 18446744073709551615)))) (by rw [show Tryz.f105.results.toList = [.tmp 2] from rfl]; exact Er) (.v _) ⟨rfl, rfl⟩
theorem rankSame_ok (x y : Nat) (h : Heap) (b : Nat) : ACalls Tryz.prog 48 [F64V x, F64V y] h b 0 (fun r h' => r = BoolV (decide (keyR x = keyR y)) ∧ h' = h) := by
  refine ACalls.enter Tryz.func48 rfl (by simp [Tryz.ntmps48]) (fun ι w hn H => ?_)
  refine Rk ?_
  refine Rg (fun E K hE hK => ?_)
  refine Us (rKeyR_ok x _ _) body_105 ?_
  refine Us (rKeyR_ok y _ _) body_105 ?_
  refine hK _ _ _ ?_; clear hE hK K E
  refine AWP.ret ?_
  exact Ends.pure hn H (fun _ _ => rfl) (r0 := BoolV (decide (keyR x = keyR y))) (by rw [show Tryz.f48.results.toList = [.tmp 4] from rfl]; exact Er) (.v _) ⟨rfl, rfl⟩
def sameX (k : Nat → Int) (f g : Fl) : Bool := decide (f.name = g.name) && (decide (k f.rank = k g.rank) && (decide (f.sum = g.sum) && (decide (f.blk = g.blk) && (decide (f.frm = g.frm) && decide (f.len = g.len)))))
def sameL (k : Nat → Int) : List Fl → List Fl → Bool
  | [], [] => true
  | f :: l, g :: m => sameX k f g && sameL k l m
  | _, _ => false
theorem oneG_ok (f g : Fl) (h : Heap) (b : Nat) : ACalls Tryz.prog 139 [FlV f, FlV g] h b 0 (fun r h' => r = BoolV (sameX keyR f g) ∧ h' = h) := by
  refine ACalls.enter Tryz.func139 rfl (by simp [Tryz.ntmps139]) (fun ι w hn H => ?_)
  have fin : ∀ (t : Nat → AV) (hh : Heap) (n : Nat) (v : Bool), t 4 = BoolV v → (∀ id, id < b → hh id = h id) → v = sameX keyR f g → Am.Ends Tryz.prog ⟨Tryz.f139.ntmps, b, ι, h, w, x0⟩ Tryz.f139 0 (fun r h' => r = BoolV (sameX keyR f g) ∧ h' = h) ⟨t, hh, n⟩ := by
    intro t hh n v ht ho hv
    exact Ends.pure hn H ho (r0 := BoolV v) (by rw [show Tryz.f139.results.toList = [.tmp 4] from rfl]; exact Ecf @ht) (.v _) ⟨by rw [hv], rfl⟩
  refine Rk ?_
  refine AWP.seqRegD [] [] [] mixed (by kernel_rfl) (by kernel_rfl) (fun K hK => .inl ?_) (by kernel_rfl); simp -implicitDefEqProofs only [go_sem, ↓reduceIte, Nat.reduceEqDiff, Nat.reduceAdd, Nat.reduceLT, Nat.reduceLeDiff, reduceCtorEq, Int.toNat_natCast]
  refine hK _ _ _ ?_; clear hK K
  refine Rk ?_
  by_cases c0 : f.name = g.name
  case neg =>
    have d0 : (f.name = g.name) = False := eq_false c0
    refine Rkf (jn5 @h00 @mkS_list @d0 @Bool.false_and @Bool.and_false) ?_
    refine AWP.ret ?_
    exact fin _ _ _ false (by exact Er) Ou (by unfold sameX; simp [c0])
  have d0 : (f.name = g.name) = True := eq_true c0
  by_cases c1 : f.sum = g.sum
  case neg =>
    have d1 : (f.sum = g.sum) = False := eq_false c1
    refine Rkf (jn6 @h00 @mkS_list @d0 @d1 @Bool.false_and @Bool.and_false) ?_
    refine AWP.ret ?_
    exact fin _ _ _ false (by exact Er) Ou (by unfold sameX; simp [c1])
  have d1 : (f.sum = g.sum) = True := eq_true c1
  by_cases c2 : f.blk = g.blk
  case neg =>
    have d2 : (f.blk = g.blk) = False := eq_false c2
    refine Rkf (jn7 @h00 @mkS_list @d0 @d1 @d2 @Bool.false_and @Bool.and_false) ?_
    refine AWP.ret ?_
    exact fin _ _ _ false (by exact Er) Ou (by unfold sameX; simp [c2])
  have d2 : (f.blk = g.blk) = True := eq_true c2
  by_cases c3 : f.frm = g.frm
  case neg =>
    have d3 : (f.frm = g.frm) = False := eq_false c3
    refine Rkf (jn2 @h00 (jn7 @mkS_list @d0 @d1 @d2 @d3 @Bool.false_and @Bool.and_false)) ?_
    refine AWP.ret ?_
    exact fin _ _ _ false (by exact Er) Ou (by unfold sameX; simp [c3])
  have d3 : (f.frm = g.frm) = True := eq_true c3
  by_cases c4 : f.len = g.len
  case neg =>
    have d4 : (f.len = g.len) = False := eq_false c4
    refine Rkf (jn3 @h00 @mkS_list (jn7 @d0 @d1 @d2 @d3 @d4 @Bool.false_and @Bool.and_false)) ?_
    refine AWP.ret ?_
    exact fin _ _ _ false (by exact Er) Ou (by unfold sameX; simp [c4])
  have d4 : (f.len = g.len) = True := eq_true c4
  refine Rgf (jn7 @h00 @mkS_list @d0 @d1 @d2 @d3 @d4) (fun E K hE hK => ?_)
  refine Us (rankSame_ok f.rank g.rank _ _) body_48 ?_
  refine hK _ _ _ ?_; clear hE hK K E
  refine AWP.ret ?_
  exact fin _ _ _ (decide (keyR f.rank = keyR g.rank)) (by exact Er) Ou (by unfold sameX; simp [c0, c1, c2, c3, c4])
end Go.Proofs.YtihgnpboabpchaaGreatDoor
namespace Go.Proofs.YtihgnpboabpchaaGreatDoor
set_option linter.unusedSimpArgs false
set_option linter.unusedVariables false
set_option linter.unnecessarySimpa false
open Go Am
set_option maxRecDepth 100000
theorem sameL_len {k : Nat → Int} : ∀ {l m : List Fl}, l.length ≠ m.length → sameL k l m = false
  | [], [], h => absurd rfl h
  | [], _ :: _, _ => rfl
  | _ :: _, [], _ => rfl
  | f :: l, g :: m, h => by
    show (sameX k f g && sameL k l m) = false
    rw [sameL_len (l := l) (m := m) (by simpa using h), Bool.and_false]
theorem sameX_refl (k : Nat → Int) (f : Fl) : sameX k f f = true := by simp [sameX]
theorem sameL_refl (k : Nat → Int) : ∀ l : List Fl, sameL k l l = true
  | [] => rfl
  | f :: l => by
    show (sameX k f f && sameL k l l) = true
    rw [sameX_refl, sameL_refl k l]; rfl
def eqgI (l m : List Fl) (h : Heap) (b i : Nat) (st : St) : Prop :=
  (∀ id, id < b → st.h id = h id) ∧ st.t 1 = FlsV m ∧ st.t 2 = .one (.clo (.func 139) [] []) ∧ st.t 15 = FlsV l ∧ st.t 16 = IntV l.length ∧ st.t 17 = IntV (i : Nat) ∧ sameL keyR l m = sameL keyR (l.drop i) (m.drop i)
theorem eqg_ok (l m : List Fl) (hl : l.length ≤ 1000000) (h : Heap) (b : Nat) :
    ACalls Tryz.prog 138 [FlsV l, FlsV m, .one (.clo (.func 139) [] [])] h b 0 (fun r h' => r = BoolV (sameL keyR l m) ∧ h' = h) := by
  refine ACalls.enter Tryz.func138 rfl (by simp [Tryz.ntmps138]) (fun ι w hn H => ?_)
  have hlow := H.lowCells
  have hlm : (l.map encF).length = l.length := List.length_map _
  have hmm : (m.map encF).length = m.length := List.length_map _
  have fin : ∀ (t : Nat → AV) (hh : Heap) (n : Nat) (v : Bool), t 6 = BoolV v → (∀ id, id < b → hh id = h id) → v = sameL keyR l m → Am.Ends Tryz.prog ⟨Tryz.f138.ntmps, b, ι, h, w, x0⟩ Tryz.f138 0 (fun r h' => r = BoolV (sameL keyR l m) ∧ h' = h) ⟨t, hh, n⟩ := by
    intro t hh n v ht ho hv
    exact Ends.pure hn H ho (r0 := BoolV v) (by rw [show Tryz.f138.results.toList = [.tmp 6] from rfl]; exact Ecf @ht) (.v _) ⟨by rw [hv], rfl⟩
  refine Rk ?_
  refine AWP.seq ?_
  by_cases hlen : (l.length : Int) = m.length
  case neg =>
    refine Rkf (jn3 @hlm @hmm @hlen) ?_
    refine Bt ?_
    refine Rk ?_
    refine AWP.ret ?_
    refine Ev ?_
    exact fin _ _ _ false (by exact Er) (fun _ _ => rfl) (sameL_len (by omega)).symm
  refine Rkf (jn3 @hlm @hmm @hlen) ?_
  refine Bs ?_
  refine AWP.seq ?_
  refine Rkf @hlm ?_
  refine AWP.block ?_
  refine AWP.loopM 0 (fun k st => ∃ i, i ≤ l.length ∧ k = l.length - i ∧ eqgI l m h b i st) l.length rfl ⟨0, Nat.zero_le _, rfl, Ou, by exact Er, by exact Er, by exact Er, by exact Er, by exact Er, rfl⟩ ?_
  rintro k ⟨t, hh, n⟩ ⟨i, hi, rfl, ho, e1, e2, e15, e16, e17, hx⟩ hn1
  simp only at ho e1 e2 e15 e16 e17 hn1
  subst hn1
  refine Rkf (jn2 @e16 @e17) ?_
  refine AWP.seq ?_
  by_cases hlt : (i : Int) < l.length
  · have hw1 : IntKind.i64.wrap ((i : Int) + 1) = ((i + 1 : Nat) : Int) := by rw [wrap_i64 (by omega) (by omega)]; rfl
    have hi2 : i < l.length := by omega
    have hi3 : i < m.length := by omega
    have hltm : (i : Int) < m.length := by omega
    have hge := encF_getD l i hi2
    have hgm := encF_getD m i hi3
    obtain ⟨f, hf⟩ : ∃ f, l[i] = f := ⟨_, rfl⟩
    obtain ⟨g, hg⟩ : ∃ g, m[i] = g := ⟨_, rfl⟩
    have hstep : sameL keyR (l.drop i) (m.drop i) = (sameX keyR f g && sameL keyR (l.drop (i + 1)) (m.drop (i + 1))) := by
      rw [List.drop_eq_getElem_cons hi2, List.drop_eq_getElem_cons hi3, hf, hg]; rfl
    rw [hf] at hge
    rw [hg] at hgm
    refine Btf @hlt ?_
    refine AWP.skip ?_
    refine Ev ?_
    refine AWP.seq ?_
    refine AWP.block ?_
    refine Rgf (jn5 @e15 @e17 @hlm @hlt @hge) (fun E K hE hK => ?_)
    refine ⟨by omega, ?_⟩
    refine hK _ _ _ ?_; clear hE hK K E
    refine Rgf (jn4 @e1 @hmm @hltm @hgm) (fun E K hE hK => ?_)
    refine ⟨by omega, ?_⟩
    refine hK _ _ _ ?_; clear hE hK K E
    cases hs : sameX keyR f g
    · refine Rgf @e2 (fun E K hE hK => ?_)
      refine Us (oneG_ok f g _ _) body_139 ?_
      refine Evf @hs ?_
      refine hK _ _ _ ?_; clear hE hK K E
      refine Bt ?_
      refine Rk ?_
      refine AWP.ret ?_
      refine Ev ?_
      exact fin _ _ _ false (by exact Er) (Ouf @ho) (by rw [hx, hstep, hs]; rfl)
    · refine Rgf @e2 (fun E K hE hK => ?_)
      refine Us (oneG_ok f g _ _) body_139 ?_
      refine Evf @hs ?_
      refine hK _ _ _ ?_; clear hE hK K E
      refine Bf ?_
      refine AWP.skip ?_
      refine Ev ?_
      refine Raf (jn2 @e17 @hw1) (fun E K hE hK => ?_); refine hK _ _ _ ?_; clear hE hK K E
      exact ⟨l.length - (i + 1), by omega, i + 1, by omega, rfl, cutH_outer (Nat.le_refl _) (Ouf @ho) hlow, by exact Ecf @e1, by exact Ecf @e2, by exact Ecf @e15, by exact Ecf @e16, by exact Er, by rw [hx, hstep, hs, Bool.true_and]⟩
  · refine Bff @hlt ?_
    refine AWP.exit ?_
    refine Ev ?_
    refine Rk ?_
    refine AWP.ret ?_
    refine fin _ _ _ true (by exact Er) ho ?_
    have h1 : i = l.length := by omega
    have h2 : i = m.length := by omega
    rw [hx, h1, List.drop_length, show l.length = m.length by omega, List.drop_length]; rfl
theorem tSameG_ok (l m : List Fl) (hl : l.length ≤ 1000000) (h : Heap) (b : Nat) : ACalls Tryz.prog 89 [FlsV l, FlsV m] h b 0 (fun r h' => r = BoolV (sameL keyR l m) ∧ h' = h) := by
  refine ACalls.enter Tryz.func89 rfl (by simp [Tryz.ntmps89]) (fun ι w hn H => ?_)
  refine Rk ?_
  refine Rg (fun E K hE hK => ?_)
  refine Us (eqg_ok l m hl _ _) body_138 ?_
  refine hK _ _ _ ?_; clear hE hK K E
  refine AWP.ret ?_
  exact Ends.pure hn H (fun _ _ => rfl) (r0 := BoolV (sameL keyR l m)) (by rw [show Tryz.f89.results.toList = [.tmp 4] from rfl]; exact Er) (.v _) ⟨rfl, rfl⟩
def rsgI (l m : List Fl) (h : Heap) (b i : Nat) (st : St) : Prop :=
  st.h = h ∧ st.t 0 = FlsV l ∧ st.t 1 = FlsV m ∧ st.t 12 = IntV l.length ∧ st.t 13 = IntV (i : Nat) ∧ sameL keyD l m = sameL keyD (l.drop i) (m.drop i)
end Go.Proofs.YtihgnpboabpchaaGreatDoor
namespace Go.Proofs.YtihgnpboabpchaaGreatDoor
set_option linter.unusedSimpArgs false
set_option linter.unusedVariables false
set_option linter.unnecessarySimpa false
open Go Am
set_option maxRecDepth 100000
end Go.Proofs.YtihgnpboabpchaaGreatDoor
namespace Go.Proofs.YtihgnpboabpchaaGreatDoor
set_option linter.unusedSimpArgs false
set_option linter.unusedVariables false
set_option linter.unnecessarySimpa false
open Go Am
set_option maxRecDepth 100000
def okG (p : S) : Prop := p = [] ∨ chkN p = 0
theorem cmpG_ok (a c : S) (ha : okG a) (hc : okG c) (h : Heap) (b : Nat) : ACalls Tryz.prog 65 [StrV a, StrV c] h b 0 (fun r h' => r = IntV (cmpF a c) ∧ h' = h) := by
  refine ACalls.enter Tryz.func65 rfl (by simp [Tryz.ntmps65]) (fun ι w hn H => ?_)
  have fin : ∀ (t : Nat → AV) (n : Nat) (v : Int), t 4 = IntV v → v = cmpF a c → Am.Ends Tryz.prog ⟨Tryz.f65.ntmps, b, ι, h, w, x0⟩ Tryz.f65 0 (fun r h' => r = IntV (cmpF a c) ∧ h' = h) ⟨t, h, n⟩ := by
    intro t n v ht hv
    exact Ends.pure hn H (fun _ _ => rfl) (r0 := IntV v) (by rw [show Tryz.f65.results.toList = [.tmp 4] from rfl]; exact Ecf @ht) (.v _) ⟨by rw [hv], rfl⟩
  refine Rk ?_
  refine AWP.seq ?_
  refine AWP.block ?_
  by_cases h1 : a = c
  · have e1 : (a = c) = True := eq_true h1
    refine Rkf (jn2 @mkS_list @e1) ?_
    refine Bt ?_
    refine Rk ?_
    refine AWP.ret ?_
    refine Ev ?_
    exact fin _ _ 0 (by exact Er) (by unfold cmpF; rw [if_pos h1])
  have e1 : (a = c) = False := eq_false h1
  refine Rkf (jn2 @mkS_list @e1) ?_
  refine Bf ?_
  by_cases h2 : a = []
  · subst h2
    refine Rkf @mkS_list ?_
    refine Bt ?_
    refine Rk ?_
    refine AWP.ret ?_
    refine Ev ?_
    exact fin _ _ (-1) (by exact Er) (by unfold cmpF; rw [if_neg h1, if_pos rfl])
  have e2 : (a = []) = False := eq_false h2
  refine Rkf (jn2 @mkS_list @e2) ?_
  refine Bf ?_
  by_cases h3 : c = []
  · subst h3
    refine Rkf @mkS_list ?_
    refine Bt ?_
    refine Rk ?_
    refine AWP.ret ?_
    refine Ev ?_
    exact fin _ _ 1 (by exact Er) (by unfold cmpF; rw [if_neg h1, if_neg h2, if_pos rfl])
  have e3 : (c = []) = False := eq_false h3
  refine Rkf (jn2 @mkS_list @e3) ?_
  refine Bf ?_
  refine AWP.skip ?_
  refine Ev ?_
  have ca : chkN a = 0 := by rcases ha with e | e; exact absurd e h2; exact e
  have cc : chkN c = 0 := by rcases hc with e | e; exact absurd e h3; exact e
  have hcm : cmpN a c = (cK a c, 0) := cmpN_ok (chkN_zero.1 ca) (chkN_zero.1 cc)
  refine Rg (fun E K hE hK => ?_)
  refine Us (Cmp_ok (mkS a) (mkS c) _ _) body_119 ?_
  refine Evf (jn2 @mkS_list @hcm) ?_
  refine hK _ _ _ ?_; clear hE hK K E
  refine Rk ?_
  refine AWP.ret ?_
  exact fin _ _ (cK a c) (by exact Er) (cmpF_clean h2 h3).symm
theorem orderG_ok (k : Ed) (p : S) (hk : okG k.name) (hp : okG p) (h : Heap) (b : Nat) : ACalls Tryz.prog 88 [EdV k, StrV p] h b 0 (fun r h' => r = IntV (cmpF k.name p) ∧ h' = h) := by
  refine ACalls.enter Tryz.func88 rfl (by simp [Tryz.ntmps88]) (fun ι w hn H => ?_)
  refine Rk ?_
  refine Rg (fun E K hE hK => ?_)
  refine Us (cmpG_ok k.name p hk hp _ _) body_65 ?_
  refine hK _ _ _ ?_; clear hE hK K E
  refine AWP.ret ?_
  exact Ends.pure hn H Ou (r0 := IntV (cmpF k.name p)) (by rw [show Tryz.f88.results.toList = [.tmp 4] from rfl]; exact Er) (.v _) ⟨rfl, rfl⟩
theorem eFind_ok (l : List Ed) (p : S) (hr : Ris nmE l) (hl : l.length ≤ 1000000) (hc : ∀ x ∈ l, chkN x.name = 0) (hp : okG p) (h : Heap) (b : Nat) :
    ACalls Tryz.prog 111 [EdsV l, StrV p, .one (.clo (.func 88) [] [])] h b 0 (fun r h' => r = .tup [IntV (posK nmE p l), BoolV (getK nmE p l).isSome] ∧ h' = h) :=
  bsed_ok l (mkS p) 88 (fun k => cmpF k.name p) (posK nmE p l) hl body_88 (fun x hx h b => orderG_ok x p (.inr (hc x hx)) hp h b) (posK_le p l) (fun j hj hk => posK_lo hr j hj hk) (fun j hj hk => posK_hi hr j hj hk) _ (isK hr) h b
theorem sFindG_ok (l : List S) (p : S) (hr : Ris nmQ l) (hl : l.length ≤ 1000000) (hc : ∀ x ∈ l, okG x) (hp : okG p) (h : Heap) (b : Nat) :
    ACalls Tryz.prog 115 [ListV l, StrV p, .one (.clo (.func 65) [] [])] h b 0 (fun r h' => r = .tup [IntV (posK nmQ p l), BoolV (getK nmQ p l).isSome] ∧ h' = h) :=
  bsst_ok l (mkS p) 65 (fun k => cmpF k p) (posK nmQ p l) hl body_65 (fun x hx h b => cmpG_ok x p (hc x hx) hp h b) (posK_le p l) (fun j hj hk => posK_lo hr j hj hk) (fun j hj hk => posK_hi hr j hj hk) _ (isK hr) h b
theorem view_1 {h : Heap} {D : Nat → Bool} {id : Nat} (p : PD) (ho : okPD p = true) (hD : D id = true) (hb : h id = some ⟨0, [.p p]⟩) : ViewC h D (.win id 0 0 1 1) (.p (.sl 1 [[p]])) :=
  @view_rowT h D id 0 1 1 0 0 1 [[p]] [] hD (by rw [hb]; rfl) (by intro e he; simp at he; subst he; exact ⟨rfl, by simpa using ho⟩) (by simp) rfl
theorem octE_mapM : ∀ s : S, octE (s.map encO) = some s
  | [] => rfl
  | x :: l => by
    show (match octV (.v (.int .u8 x.toNat)), octE (l.map encO) with | some c, some cs => some (c :: cs) | _, _ => none) = _
    rw [octE_mapM l, show octV (.v (.int .u8 x.toNat)) = some x by simp [octV]; have := x.toNat_lt; omega]
theorem bytesEqM_ok (s u : S) (h : Heap) (b : Nat) : ACalls Tryz.prog 49 [OctV s, OctV u] h b 0 (fun r h' => r = BoolV (decide (s = u)) ∧ h' = h) := by
  refine ACalls.enter Tryz.func49 rfl (by simp [Tryz.ntmps49]) (fun ι w hn H => ?_)
  have o1 := octE_mapM s
  have o2 := octE_mapM u
  have ho : octT Tryz.prog 38 9 = true := by kernel_rfl
  refine Rk ?_
  refine Rkf (jn3 @o1 @o2 @ho) ?_
  refine AWP.ret ?_
  exact Ends.pure hn H (fun _ _ => rfl) (r0 := BoolV (decide (s = u))) (by rw [show Tryz.f49.results.toList = [.tmp 4] from rfl]; exact Er) (.v _) ⟨rfl, rfl⟩
def oneX (a c : Ed) : Bool := decide (a.name = c.name) && (decide (a.gone = c.gone) && (decide (keyR a.rank = keyR c.rank) && (decide (a.of = c.of) && decide (a.data = c.data))))
theorem sone_ok (a c : Ed) (h : Heap) (b : Nat) : ACalls Tryz.prog 91 [EdV a, EdV c] h b 0 (fun r h' => r = BoolV (oneX a c) ∧ h' = h) := by
  refine ACalls.enter Tryz.func91 rfl (by simp [Tryz.ntmps91]) (fun ι w hn H => ?_)
  have fin : ∀ (t : Nat → AV) (hh : Heap) (n : Nat) (v : Bool), t 4 = BoolV v → (∀ id, id < b → hh id = h id) → v = oneX a c → Am.Ends Tryz.prog ⟨Tryz.f91.ntmps, b, ι, h, w, x0⟩ Tryz.f91 0 (fun r h' => r = BoolV (oneX a c) ∧ h' = h) ⟨t, hh, n⟩ := by
    intro t hh n v ht ho hv
    exact Ends.pure hn H ho (r0 := BoolV v) (by rw [show Tryz.f91.results.toList = [.tmp 4] from rfl]; exact Ecf @ht) (.v _) ⟨by rw [hv], rfl⟩
  refine Rk ?_
  by_cases c0 : a.name = c.name
  case neg =>
    have d0 : (a.name = c.name) = False := eq_false c0
    refine Rkf (jn2 @mkS_list @d0) ?_
    refine AWP.ret ?_
    exact fin _ _ _ false (by exact Er) Ou (by simp [oneX, c0])
  have d0 : (a.name = c.name) = True := eq_true c0
  cases hag : a.gone <;> cases hcg : c.gone
  case false.true =>
    refine Rkf (jn4 @mkS_list @d0 @hag @hcg) ?_
    refine AWP.ret ?_
    exact fin _ _ _ false (by exact Er) Ou (by simp [oneX, hag, hcg])
  case true.false =>
    refine Rkf (jn4 @mkS_list @d0 @hag @hcg) ?_
    refine AWP.ret ?_
    exact fin _ _ _ false (by exact Er) Ou (by simp [oneX, hag, hcg])
  all_goals
    cases c2 : decide (keyR a.rank = keyR c.rank)
    case false =>
      refine Rgf (jn4 @mkS_list @d0 @hag @hcg) (fun E K hE hK => ?_)
      refine Us (rankSame_ok a.rank c.rank _ _) body_48 ?_
      refine Evf @c2 ?_
      refine hK _ _ _ ?_; clear hE hK K E
      refine AWP.ret ?_
      exact fin _ _ _ false (by exact Er) Ou (by simp [oneX, c2])
    by_cases c3 : a.of = c.of
    case neg =>
      have d3 : (a.of = c.of) = False := eq_false c3
      refine Rgf (jn4 @mkS_list @d0 @hag @hcg) (fun E K hE hK => ?_)
      refine Us (rankSame_ok a.rank c.rank _ _) body_48 ?_
      refine Evf (jn3 @c2 @mkS_list @d3) ?_
      refine hK _ _ _ ?_; clear hE hK K E
      refine AWP.ret ?_
      exact fin _ _ _ false (by exact Er) Ou (by simp [oneX, c3])
    have d3 : (a.of = c.of) = True := eq_true c3
    refine Rgf (jn4 @mkS_list @d0 @hag @hcg) (fun E K hE hK => ?_)
    refine Us (rankSame_ok a.rank c.rank _ _) body_48 ?_
    refine Evf (jn3 @c2 @mkS_list @d3) ?_
    refine Us (bytesEqM_ok a.data c.data _ _) body_49 ?_
    refine hK _ _ _ ?_; clear hE hK K E
    refine AWP.ret ?_
    exact fin _ _ _ (decide (a.data = c.data)) (by exact Er) Ou (by simp [oneX, c0, hag, hcg, of_decide_eq_true c2, c3])
end Go.Proofs.YtihgnpboabpchaaGreatDoor
namespace Go.Proofs.YtihgnpboabpchaaGreatDoor
set_option linter.unusedSimpArgs false
set_option linter.unusedVariables false
set_option linter.unnecessarySimpa false
open Go Am
set_option maxRecDepth 100000
theorem fileT_none {t : List Fl} {p : S} : fileT t p = none ↔ (getR t p).2 ≠ 0 := by
  unfold fileT getR
  by_cases c : checkT t ≠ 0 ∨ chkN p ≠ 0
  · rw [if_pos c, if_pos c]; simp
  · rw [if_neg c, if_neg c]
    by_cases h : hasL p t = true
    · obtain ⟨hk, _⟩ := hasL_k.1 h
      rw [if_pos h, if_pos h, List.getElem?_eq_getElem hk]; simp
    · rw [if_neg h, if_neg h]; simp
theorem fileT_some {t : List Fl} {p : S} {f : Fl} (h : fileT t p = some f) : getR t p = (f, 0) := by
  unfold fileT at h
  unfold getR
  by_cases c : checkT t ≠ 0 ∨ chkN p ≠ 0
  · rw [if_pos c] at h; cases h
  · rw [if_neg c] at h ⊢
    by_cases hh : hasL p t = true
    · rw [if_pos hh] at h ⊢
      rw [List.getD_eq_getElem?_getD, h]; rfl
    · rw [if_neg hh] at h; cases h
theorem smay_ok (t : List Fl) (x : Ed) (ht : t.length ≤ 1000000) (h : Heap) (b : Nat) : ACalls Tryz.prog 87 [FlsV t, EdV x] h b 0 (fun r h' => r = BoolV (mayE keyR t x) ∧ h' = h) := by
  refine ACalls.enter Tryz.func87 rfl (by simp [Tryz.ntmps87]) (fun ι w hn H => ?_)
  have hdl : (x.data.map encO).length = x.data.length := List.length_map _
  have fin : ∀ (tt : Nat → AV) (hh : Heap) (n : Nat) (v : Bool), tt 4 = BoolV v → (∀ id, id < b → hh id = h id) → v = mayE keyR t x → Am.Ends Tryz.prog ⟨Tryz.f87.ntmps, b, ι, h, w, x0⟩ Tryz.f87 0 (fun r h' => r = BoolV (mayE keyR t x) ∧ h' = h) ⟨tt, hh, n⟩ := by
    intro tt hh n v e ho hv
    exact Ends.pure hn H ho (r0 := BoolV v) (by rw [show Tryz.f87.results.toList = [.tmp 4] from rfl]; exact Ecf @e) (.v _) ⟨by rw [hv], rfl⟩
  refine Rk ?_
  refine AWP.seq ?_
  by_cases c1 : chkN x.name = 0
  case neg =>
    have c1' : (chkN x.name = 0) = False := eq_false c1
    refine Rg (fun E K hE hK => ?_)
    refine Us (Check_ok (mkS x.name) _ _) body_31 ?_
    refine Evf (jn2 @mkS_list @c1') ?_
    refine hK _ _ _ ?_; clear hE hK K E
    refine Bt ?_
    refine Rk ?_
    refine AWP.ret ?_
    refine Ev ?_
    exact fin _ _ _ false (by exact Er) Ou (by simp [mayE, c1])
  have c1' : (chkN x.name = 0) = True := eq_true c1
  refine Rg (fun E K hE hK => ?_)
  refine Us (Check_ok (mkS x.name) _ _) body_31 ?_
  refine Evf (jn2 @mkS_list @c1') ?_
  refine hK _ _ _ ?_; clear hE hK K E
  refine Bs ?_
  refine AWP.seq ?_
  refine AWP.block ?_
  cases hg : x.gone
  case true =>
    refine Rkf @hg ?_
    refine Bt ?_
    refine Rgf @hg (fun E K hE hK => ?_)
    refine CallR.use ((sone_ok x ⟨x.name, true, 0, [], []⟩ _ _).argNil (by rw [← hg]; exact ⟨lessV.refl _, ⟨.inl rfl, .inl (by rw [hg]), .inl rfl, .inl rfl, .nil 1, trivial⟩, trivial⟩)) body_91 ?_
    rintro _ _ ⟨rfl, rfl⟩
    refine Ev ?_
    refine hK _ _ _ ?_; clear hE hK K E
    refine AWP.ret ?_
    refine Ev ?_
    exact fin _ _ _ (oneX x ⟨x.name, true, 0, [], []⟩) (by exact Er) Ou (by simp [mayE, oneX, c1, hg])
  refine Rkf @hg ?_
  refine Bf ?_
  by_cases c2 : x.of = []
  · have c2' : (x.of = []) = True := eq_true c2
    refine Rkf (jn2 @mkS_list @c2') ?_
    refine Bt ?_
    refine Rkf @hdl ?_
    refine AWP.ret ?_
    refine Ev ?_
    exact fin _ _ _ (decide ((x.data.length : Int) ≤ 65536)) (by exact Er) Ou (by simp [mayE, c1, hg, c2]; omega)
  have c2' : (x.of = []) = False := eq_false c2
  refine Rkf (jn2 @mkS_list @c2') ?_
  refine Bf ?_
  refine AWP.skip ?_
  refine Ev ?_
  have cg : ∀ h b, ACalls Tryz.prog 112 [FlsV t, StrV x.of] h b 0 (fun r h' => r = .tup [.agg [.p (.v (.string (mkS (getR t x.of).1.name))), .p (.v (.float .f64 (getR t x.of).1.rank)), .p (.v (.int .u32 (getR t x.of).1.sum)), .p (.v (.int .i64 (getR t x.of).1.blk)), .p (.v (.int .i64 (getR t x.of).1.frm)), .p (.v (.int .i64 (getR t x.of).1.len))], IntV (getR t x.of).2] ∧ h' = h) := Get_ok t x.of ht
  refine Rg (fun E K hE hK => ?_)
  refine Us (cg _ _) body_112 ?_
  refine hK _ _ _ ?_; clear hE hK K E
  cases hf : fileT t x.of with
  | none =>
    have e0 : ((getR t x.of).2 = 0) = False := eq_false (fileT_none.1 hf)
    refine Rkf @e0 ?_
    refine AWP.ret ?_
    exact fin _ _ _ false (by exact Er) Ou (by simp [mayE, c1, hg, c2, hf])
  | some f =>
    have e0 : ((getR t x.of).2 = 0) = True := eq_true (by rw [fileT_some hf])
    refine Rkf (jn2 @e0 @hdl) ?_
    refine AWP.ret ?_
    exact fin _ _ _ (decide ((x.data.length : Int) = 0)) (by exact Er) Ou (by simp [mayE, c1, hg, c2, hf])
def prevE (l : List Ed) (i : Nat) : Option S := if i = 0 then none else (l[i - 1]?).map Ed.name
theorem sCheck_ok (s : Sg) (ht : s.t.length ≤ 1000000) (hl : s.ed.length ≤ 1000000) (hn1 : s.names.length ≤ 1000000) (hd1 : s.dirs.length ≤ 1000000) (h : Heap) (b : Nat) : ACalls Tryz.prog 35 [SgV s] h b 0 (fun r h' => r = IntV (checkS keyR s) ∧ h' = h) := by
  refine ACalls.enter Tryz.func35 rfl (by simp [Tryz.ntmps35]) (fun ι w hn H => ?_)
  have hlow := H.lowCells
  have hlm : (s.ed.map encEd).length = s.ed.length := List.length_map _
  have fin : ∀ (t : Nat → AV) (hh : Heap) (n : Nat) (v : Int), t 2 = IntV v → (∀ id, id < b → hh id = h id) → v = checkS keyR s → Am.Ends Tryz.prog ⟨Tryz.f35.ntmps, b, ι, h, w, x0⟩ Tryz.f35 0 (fun r h' => r = IntV (checkS keyR s) ∧ h' = h) ⟨t, hh, n⟩ := by
    intro t hh n v ht ho hv
    exact Ends.pure hn H ho (r0 := IntV v) (by rw [show Tryz.f35.results.toList = [.tmp 2] from rfl]; exact Ecf @ht) (.v _) ⟨by rw [hv], rfl⟩
  refine Rk ?_
  refine AWP.seq ?_
  by_cases c0 : 1099511627776 < s.gen
  · refine Rkf @c0 ?_
    refine Bt ?_
    refine Rk ?_
    refine AWP.ret ?_
    refine Ev ?_
    exact fin _ _ _ 1 (by exact Er) Ou (by unfold checkS; rw [if_pos (.inl c0)])
  by_cases c1 : checkT s.t = 0
  case neg =>
    have c1' : (checkT s.t = 0) = False := eq_false c1
    refine Rgf @c0 (fun E K hE hK => ?_)
    refine Us (tCheck_ok s.t ht _ _) body_85 ?_
    refine Evf @c1' ?_
    refine hK _ _ _ ?_; clear hE hK K E
    refine Bt ?_
    refine Rk ?_
    refine AWP.ret ?_
    refine Ev ?_
    exact fin _ _ _ 1 (by exact Er) Ou (by unfold checkS; rw [if_pos (.inr (.inl c1))])
  have c1' : (checkT s.t = 0) = True := eq_true c1
  by_cases c2 : mayX s.names s.dirs = 0
  case neg =>
    have c2' : (mayX s.names s.dirs = 0) = False := eq_false c2
    refine Rgf @c0 (fun E K hE hK => ?_)
    refine Us (tCheck_ok s.t ht _ _) body_85 ?_
    refine Evf @c1' ?_
    refine Us (vMay_ok s.names s.dirs hn1 hd1 _ _) body_86 ?_
    refine Evf @c2' ?_
    refine hK _ _ _ ?_; clear hE hK K E
    refine Bt ?_
    refine Rk ?_
    refine AWP.ret ?_
    refine Ev ?_
    exact fin _ _ _ 1 (by exact Er) Ou (by unfold checkS; rw [if_pos (.inr (.inr (.inl c2)))])
  have c2' : (mayX s.names s.dirs = 0) = True := eq_true c2
  by_cases c3 : (256 : Int) < s.ed.length
  · refine Rgf @c0 (fun E K hE hK => ?_)
    refine Us (tCheck_ok s.t ht _ _) body_85 ?_
    refine Evf @c1' ?_
    refine Us (vMay_ok s.names s.dirs hn1 hd1 _ _) body_86 ?_
    refine Evf (jn3 @c2' @hlm @c3) ?_
    refine hK _ _ _ ?_; clear hE hK K E
    refine Bt ?_
    refine Rk ?_
    refine AWP.ret ?_
    refine Ev ?_
    exact fin _ _ _ 1 (by exact Er) Ou (by unfold checkS; rw [if_pos (.inr (.inr (.inr (by omega))))])
  have hcx : checkS keyR s = if ckE keyR s.t none s.ed = true then 0 else 1 := by
    unfold checkS; rw [if_neg (by rintro (h | h | h | h); exact c0 h; exact h c1; exact h c2; omega)]
  refine Rgf @c0 (fun E K hE hK => ?_)
  refine Us (tCheck_ok s.t ht _ _) body_85 ?_
  refine Evf @c1' ?_
  refine Us (vMay_ok s.names s.dirs hn1 hd1 _ _) body_86 ?_
  refine Evf (jn3 @c2' @hlm @c3) ?_
  refine hK _ _ _ ?_; clear hE hK K E
  refine Bs ?_
  refine AWP.seq ?_
  refine Rkf @hlm ?_
  refine AWP.block ?_
  refine AWP.loopM 1 (fun k st => ∃ i, i ≤ s.ed.length ∧ k = s.ed.length - i ∧ (∀ id, id < b → st.h id = h id) ∧ st.h b = some ⟨0, (encSg s).map .p⟩ ∧ st.t 1 = .one (.ptr b 0 0) ∧ st.t 27 = EdsV s.ed ∧ st.t 28 = IntV s.ed.length ∧ st.t 29 = IntV (i : Nat) ∧ ckE keyR s.t none s.ed = ckE keyR s.t (prevE s.ed i) (s.ed.drop i) ∧ ∀ x ∈ s.ed.take i, chkN x.name = 0) s.ed.length rfl ⟨0, Nat.zero_le _, rfl, Ou, by exact Er, by exact Er, by exact Er, by exact Er, by exact Er, rfl, by simp⟩ ?_
  rintro k ⟨t, hh, n⟩ ⟨i, hi, rfl, ho, hB, e1, e27, e28, e29, hc, hmay⟩ hn2
  simp only at ho hB e1 e27 e28 e29 hn2
  subst hn2
  refine Rkf (jn2 @e28 @e29) ?_
  refine AWP.seq ?_
  by_cases hlt : (i : Int) < s.ed.length
  · have hw1 : IntKind.i64.wrap ((i : Int) + 1) = ((i + 1 : Nat) : Int) := by rw [wrap_i64 (by omega) (by omega)]; rfl
    have hi2 : i < s.ed.length := by omega
    have hge := encEd_getD s.ed i hi2
    obtain ⟨x, hx⟩ : ∃ x, s.ed[i] = x := ⟨_, rfl⟩
    have hdr : s.ed.drop i = x :: s.ed.drop (i + 1) := by rw [List.drop_eq_getElem_cons hi2, hx]
    have hpn : prevE s.ed (i + 1) = some x.name := by unfold prevE; rw [if_neg (by omega), Nat.add_sub_cancel, List.getElem?_eq_getElem hi2, hx]; rfl
    rw [hx] at hge
    have hc2 : ckE keyR s.t none s.ed = (mayE keyR s.t x && ((match prevE s.ed i with | none => true | some p => decide (cmpF p x.name < 0)) && ckE keyR s.t (some x.name) (s.ed.drop (i + 1)))) := by rw [hc, hdr]; rfl
    have bad : ckE keyR s.t none s.ed = false → 1 = checkS keyR s := fun e => by rw [hcx, e]; rfl
    have hmay2 : mayE keyR s.t x = true → ∀ y ∈ s.ed.take (i + 1), chkN y.name = 0 := by
      intro g y hy
      rw [List.take_add_one, List.getElem?_eq_getElem hi2, hx] at hy
      rcases List.mem_append.1 hy with hy | hy
      · exact hmay y hy
      · simp at hy; subst hy
        unfold mayE at g
        simp only [Bool.and_eq_true, decide_eq_true_eq] at g
        exact g.1
    refine Btf @hlt ?_
    refine AWP.skip ?_
    refine Ev ?_
    refine AWP.seq ?_
    refine AWP.block ?_
    refine Rgf (jn5 @e27 @e29 @hlm @hlt @hge) (fun E K hE hK => ?_)
    refine ⟨by omega, ?_⟩
    refine hK _ _ _ ?_; clear hE hK K E
    cases c4 : mayE keyR s.t x
    · refine AWP.seqRegDG [] [] [] mixed (drawF_ok (by kernel_rfl)) (by kernel_rfl) (fun K hK => ?_); simp -implicitDefEqProofs only [go_sem, ↓reduceIte, Nat.reduceEqDiff, Nat.reduceAdd, Nat.reduceLT, Nat.reduceLeDiff, reduceCtorEq, Int.toNat_natCast, e1, hB]
      refine Ud (smay_ok s.t x ht _ _) body_87 ?_
      try (refine Evf @c4 ?_)
      repeat (first | (refine Gd 39 ?_) | (refine Gd 42 ?_) | (refine ⟨by omega, ?_⟩))
      refine hK _ _ _ ?_; clear hK K
      refine Bt ?_
      refine Rk ?_
      refine AWP.ret ?_
      refine Ev ?_
      exact fin _ _ _ 1 (by exact Er) (Ouf @ho) (bad (by rw [hc2, c4]; rfl))
    by_cases h0 : i = 0
    · have h0' : ¬ (0 : Int) < i := by omega
      refine AWP.seqRegDG [] [] [] mixed (drawF_ok (by kernel_rfl)) (by kernel_rfl) (fun K hK => ?_); simp -implicitDefEqProofs only [go_sem, ↓reduceIte, Nat.reduceEqDiff, Nat.reduceAdd, Nat.reduceLT, Nat.reduceLeDiff, reduceCtorEq, Int.toNat_natCast, e1, hB, h0']
      refine Ud (smay_ok s.t x ht _ _) body_87 ?_
      try (refine Evf @c4 ?_)
      repeat (first | (refine Gdf 39 (jn3 @h0' @e1 @hB) ?_) | (refine Gdf 42 (jn3 @h0' @e1 @hB) ?_) | (refine ⟨by omega, ?_⟩))
      refine hK _ _ _ ?_; clear hK K
      refine Bf ?_
      refine AWP.skip ?_
      refine Ev ?_
      refine Raf (jn2 @e29 @hw1) (fun E K hE hK => ?_); refine hK _ _ _ ?_; clear hE hK K E
      exact ⟨(by decide : 1 ≤ 2), s.ed.length - (i + 1), by omega, i + 1, by omega, rfl, cutH_outer (Nat.le_succ _) (Ouf @ho) hlow, cutH_same (Nat.lt_succ_self _) (by exact Erf @hB) (by simp [lowCs, lowC]), by refine Evf @e1 ?_; exact cutV_ptr (Nat.lt_succ_self _), by exact Ecf @e27, by exact Ecf @e28, by exact Er, by rw [hc2, c4, hpn]; unfold prevE; rw [if_pos h0]; rfl, hmay2 c4⟩
    have h0' : (0 : Int) < i := by omega
    have hi3 : i - 1 < s.ed.length := by omega
    have hge2 := encEd_getD s.ed (i - 1) hi3
    have hwm : IntKind.i64.wrap ((i : Int) - 1) = ((i - 1 : Nat) : Int) := by rw [wrap_i64 (by omega) (by omega)]; omega
    have hlt2 : ((i - 1 : Nat) : Int) < s.ed.length := by omega
    obtain ⟨g, hg⟩ : ∃ g, s.ed[i - 1] = g := ⟨_, rfl⟩
    have hpi : prevE s.ed i = some g.name := by unfold prevE; rw [if_neg h0, List.getElem?_eq_getElem hi3, hg]; rfl
    rw [hg] at hge2
    have hgm : chkN g.name = 0 := hmay g (by
      have : s.ed[i - 1]? = (s.ed.take i)[i - 1]? := by rw [List.getElem?_take, if_pos (by omega)]
      rw [List.getElem?_eq_getElem hi3, hg] at this
      exact List.mem_of_getElem? this.symm)
    have hxm : chkN x.name = 0 := hmay2 c4 x (by rw [List.take_add_one, List.getElem?_eq_getElem hi2, hx]; simp)
    rw [hpi] at hc2
    simp only at hc2
    by_cases c5 : 0 ≤ cmpF g.name x.name
    · refine AWP.seqRegDG [] [] [] mixed (drawF_ok (by kernel_rfl)) (by kernel_rfl) (fun K hK => ?_); simp -implicitDefEqProofs only [go_sem, ↓reduceIte, Nat.reduceEqDiff, Nat.reduceAdd, Nat.reduceLT, Nat.reduceLeDiff, reduceCtorEq, Int.toNat_natCast, e1, hB, h0', hlm, hwm, hlt2, hge2]
      refine Ud (smay_ok s.t x ht _ _) body_87 ?_
      try (refine Evf @c4 ?_)
      repeat (first | (refine Gdf 39 (jn7 @h0' @e1 @hB @hlm @hwm @hlt2 @hge2) ?_) | (refine Gdf 42 (jn7 @h0' @e1 @hB @hlm @hwm @hlt2 @hge2) ?_) | (refine ⟨by omega, ?_⟩))
      refine Ud (orderG_ok g x.name (.inr hgm) (.inr hxm) _ _) body_88 ?_
      try (refine Evf @c5 ?_)
      repeat (first | (refine Gdf 39 (jn4 @h0' @e1 @hB @c5) ?_) | (refine Gdf 42 (jn4 @h0' @e1 @hB @c5) ?_) | (refine ⟨by omega, ?_⟩))
      refine hK _ _ _ ?_; clear hK K
      refine Bt ?_
      refine Rk ?_
      refine AWP.ret ?_
      refine Ev ?_
      exact fin _ _ _ 1 (by exact Er) (Ouf @ho) (bad (by rw [hc2, decide_eq_false (show ¬ cmpF g.name x.name < 0 by omega)]; simp))
    · refine AWP.seqRegDG [] [] [] mixed (drawF_ok (by kernel_rfl)) (by kernel_rfl) (fun K hK => ?_); simp -implicitDefEqProofs only [go_sem, ↓reduceIte, Nat.reduceEqDiff, Nat.reduceAdd, Nat.reduceLT, Nat.reduceLeDiff, reduceCtorEq, Int.toNat_natCast, e1, hB, h0', hlm, hwm, hlt2, hge2]
      refine Ud (smay_ok s.t x ht _ _) body_87 ?_
      try (refine Evf @c4 ?_)
      repeat (first | (refine Gdf 39 (jn7 @h0' @e1 @hB @hlm @hwm @hlt2 @hge2) ?_) | (refine Gdf 42 (jn7 @h0' @e1 @hB @hlm @hwm @hlt2 @hge2) ?_) | (refine ⟨by omega, ?_⟩))
      refine Ud (orderG_ok g x.name (.inr hgm) (.inr hxm) _ _) body_88 ?_
      try (refine Evf @c5 ?_)
      repeat (first | (refine Gdf 39 (jn4 @h0' @e1 @hB @c5) ?_) | (refine Gdf 42 (jn4 @h0' @e1 @hB @c5) ?_) | (refine ⟨by omega, ?_⟩))
      refine hK _ _ _ ?_; clear hK K
      refine Bf ?_
      refine AWP.skip ?_
      refine Ev ?_
      refine Raf (jn2 @e29 @hw1) (fun E K hE hK => ?_); refine hK _ _ _ ?_; clear hE hK K E
      exact ⟨(by decide : 1 ≤ 2), s.ed.length - (i + 1), by omega, i + 1, by omega, rfl, cutH_outer (Nat.le_succ _) (Ouf @ho) hlow, cutH_same (Nat.lt_succ_self _) (by exact Erf @hB) (by simp [lowCs, lowC]), by refine Evf @e1 ?_; exact cutV_ptr (Nat.lt_succ_self _), by exact Ecf @e27, by exact Ecf @e28, by exact Er, by rw [hc2, c4, hpn, decide_eq_true (show cmpF g.name x.name < 0 by omega)]; rfl, hmay2 c4⟩
  · refine Bff @hlt ?_
    refine AWP.exit ?_
    refine Ev ?_
    refine Rk ?_
    refine AWP.ret ?_
    refine fin _ _ _ 0 (by exact Er) ho ?_
    have : i = s.ed.length := by omega
    subst this
    rw [hcx, hc, List.drop_length]; rfl
end Go.Proofs.YtihgnpboabpchaaGreatDoor
namespace Go.Proofs.YtihgnpboabpchaaGreatDoor
set_option linter.unusedSimpArgs false
set_option linter.unusedVariables false
set_option linter.unnecessarySimpa false
open Go Am
set_option maxRecDepth 100000
theorem Ends.keepL {P : Program} {C : Ctx} {fn : Func} {R : AV → Heap → Prop} {s : St} {r0 r : AV} {m : Nat} (L : List (Nat × Blk × List Cell)) (hm : L.length = m) (H : HeapOK C.ι C.h C.b C.w) (he : ∀ id, id < C.b → s.h id = C.h id)
    (hL : ∀ x ∈ L, C.b ≤ x.1 ∧ s.h x.1 = some x.2.1 ∧ x.2.2.length = x.2.1.cells.length ∧ ∀ (i : Nat) (c d : Cell), x.2.1.cells[i]? = some c → x.2.2[i]? = some d → renC s.h C.b (L.map fun x => (x.1, x.2.2)) c d)
    (nd : (L.map (·.1)).Nodup) (hr : resA P s.h s.t fn.results.toList = some r0) (hf : renV s.h C.b (L.map fun x => (x.1, x.2.2)) r0 r)
    (hR : ∀ h' : Heap, (∀ k x, L[k]? = some x → h' (C.b + k) = some ⟨x.2.1.ver, x.2.2⟩) → (∀ id, id < C.b → h' id = C.h id) → R r h') : Am.Ends P C fn m R s := by
  refine Am.Ends.keep (L.map fun x => (x.1, x.2.2)) (by rw [List.length_map]; exact hm) ⟨fun k id ds e => ?_, fun k k' id ds ds' e e' => ?_, fun i hi b0 e => H.lowCells i b0 (by rw [← he i hi]; exact e)⟩ hr hf (hR _ (fun k x e => ?_) (fun id hid => ?_))
  · rw [List.getElem?_map] at e
    obtain ⟨x, hx, hxe⟩ := Option.map_eq_some_iff.1 e
    injection hxe with h1 h2
    subst h1; subst h2
    obtain ⟨q1, q2, q3, q4⟩ := hL x (List.mem_of_getElem? hx)
    exact ⟨q1, x.2.1, q2, q3, q4⟩
  · rw [List.getElem?_map] at e e'
    obtain ⟨x, hx, hxe⟩ := Option.map_eq_some_iff.1 e
    obtain ⟨y, hy, hye⟩ := Option.map_eq_some_iff.1 e'
    injection hxe with h1 _
    injection hye with h2 _
    have k1 := (List.getElem?_eq_some_iff.1 hx).1
    have k2 := (List.getElem?_eq_some_iff.1 hy).1
    have e3 : (L.map (·.1))[k]? = (L.map (·.1))[k']? := by
      rw [List.getElem?_map, List.getElem?_map, hx, hy]
      show some x.1 = some y.1
      rw [h1, h2]
    exact (List.getElem?_inj (by rw [List.length_map]; exact k1) nd).1 e3
  · unfold keepH
    rw [if_neg (by omega), Nat.add_sub_cancel_left, List.getElem?_map, e]
    show (s.h x.1).map _ = _
    rw [(hL x (List.mem_of_getElem? e)).2.1]; rfl
  · unfold keepH
    rw [if_pos hid]; exact he id hid
structure SzS (s : Sg) : Prop where
  t : s.t.length ≤ 1000000
  ed : s.ed.length ≤ 1000000
  nm : s.names.length ≤ 1000000
  dr : s.dirs.length ≤ 1000000
  data : ∀ x ∈ s.ed, x.data.length ≤ 1000000
def ownSR (s : Sg) (h : Heap) (b : Nat) (r : AV) (h' : Heap) : Prop :=
  ∃ ev ec nv nc dv dc, r = .agg [.p (.v (.int .u64 s.gen)), .p (.sl 6 (s.t.map encF)), .win b ev 0 s.ed.length ec, .win (b + 1) nv 0 s.names.length nc, .win (b + 2) dv 0 s.dirs.length dc] ∧
    RowAt h' b ev ec 5 (s.ed.map encEd) ∧ RowAt h' (b + 1) nv nc 1 (s.names.map encS) ∧ RowAt h' (b + 2) dv dc 1 (s.dirs.map encS) ∧ ∀ id, id < b → h' id = h id
def oSI (s : Sg) (ev ec : Nat) (Te : List Cell) (nv nc : Nat) (Tn : List Cell) (dv dc : Nat) (Td : List Cell) (h : Heap) (b : Nat) (st : St) : Prop :=
  st.h b = some ⟨0, [.p (.v (.int .u64 s.gen)), .p (.sl 6 (s.t.map encF)), .win (b + 2) ev 0 s.ed.length ec, .win (b + 3) nv 0 s.names.length nc, .win (b + 4) dv 0 s.dirs.length dc]⟩ ∧ (∃ x y z w v, st.h (b + 1) = some ⟨0, [.p x, .p y, .p z, .p w, .p v]⟩) ∧
    st.h (b + 2) = some (rowB ev (s.ed.map encEd) Te) ∧ st.h (b + 3) = some (rowB nv (s.names.map encS) Tn) ∧ st.h (b + 4) = some (rowB dv (s.dirs.map encS) Td) ∧ (∀ id, id < b → st.h id = h id) ∧ st.t 1 = .one (.ptr b 0 0) ∧ st.t 2 = .one (.ptr (b + 1) 0 0)
theorem sown_ok (s : Sg) (z : SzS s) (h : Heap) (b : Nat) : ACalls Tryz.prog 110 [SgV s] h b 3 (ownSR s h b) := by
  refine ACalls.enter Tryz.func110 rfl (by simp [Tryz.ntmps110]) (fun ι w hn H => ?_)
  have hlow := H.lowCells
  have hz1 := z.t; have hz2 := z.ed; have hz3 := z.nm; have hz4 := z.dr
  have htm : (s.t.map encF).length = s.t.length := List.length_map _
  have hem : (s.ed.map encEd).length = s.ed.length := List.length_map _
  have hnm : (s.names.map encS).length = s.names.length := List.length_map _
  have hdm : (s.dirs.map encS).length = s.dirs.length := List.length_map _
  refine AWP.seqReg (by kernel_rfl) (fun E K hE hK => ?_); simp -implicitDefEqProofs only [go_sem, ↓reduceIte, Nat.reduceEqDiff, Nat.reduceAdd, Nat.reduceLT, Nat.reduceLeDiff, reduceCtorEq, Int.toNat_natCast, encSg]; refine hK _ _ _ ?_; clear hE hK K E
  refine Am.AWP.genT (fun st => st.n = 2 ∧ st.t 1 = .one (.ptr b 0 0) ∧ st.t 2 = .one (.ptr (b + 1) 0 0) ∧ st.h b = some ⟨0, (encSg s).map .p⟩ ∧ (∃ x y z w v, st.h (b + 1) = some ⟨0, [.p x, .p y, .p z, .p w, .p v]⟩) ∧ ∀ id, id < b → st.h id = h id) ⟨rfl, by exact Er, by exact Er, by (first | (simp -implicitDefEqProofs only [go_sem, ↓reduceIte, Nat.reduceEqDiff, Nat.reduceAdd, Nat.reduceLT, Nat.reduceLeDiff, reduceCtorEq, Int.toNat_natCast, encSg]; first | done | rfl) | rfl), ⟨_, _, _, _, _, by exact Er⟩, Ou⟩ ?_
  rintro ⟨t, h1, n⟩ ⟨hn1, e1, e2, hM, ⟨x1, x2, x3, x4, x5, hR⟩, ho⟩
  simp only at hn1 e1 e2 hM hR ho
  subst hn1
  refine AWP.known (fun hnew => ?_)
  simp only at hnew
  refine AWP.seqRegC 7 [7] [FlsV s.t] (h1) (Sub.refl _) mixed (by kernel_rfl) (by kernel_rfl) (by kernel_rfl) (fun K hK => ?_) (by kernel_rfl); simp -implicitDefEqProofs only [go_sem, ↓reduceIte, Nat.reduceEqDiff, Nat.reduceAdd, Nat.reduceLT, Nat.reduceLeDiff, reduceCtorEq, Int.toNat_natCast, List.take_succ_cons, List.take_zero, List.drop_succ_cons, List.drop_zero,  e1, hM, encSg]
  refine CallP.use (fun _ _ _ => (clone_fl_ok (s.t.map encF) (okEs_fl s.t) _ _ (by omega)).rowFrz (okEs_fl s.t)) body_78 ?_
  simp -implicitDefEqProofs only [go_sem, ↓reduceIte, Nat.reduceEqDiff, Nat.reduceAdd, Nat.reduceLT, Nat.reduceLeDiff, reduceCtorEq, Int.toNat_natCast, e1, hM, encSg]
  refine CallD.use (clone_ed_ok (s.ed.map encEd) (okEs_ed s.ed) _ _ (by omega)) body_154 ?_
  rintro _ _ ⟨ev, ec, Te, g1, g2, g3, rfl, rfl⟩
  refine ⟨(Sub.refl _).new (hnew _ (Nat.le_refl _)), ?_⟩
  rw [hem] at g1 g2 ⊢
  simp -implicitDefEqProofs only [go_sem, ↓reduceIte, Nat.reduceEqDiff, Nat.reduceAdd, Nat.reduceLT, Nat.reduceLeDiff, reduceCtorEq, Int.toNat_natCast, e1, hM, encSg]
  obtain ⟨H2, hH2⟩ : ∃ H2, H2 = upd h1 (b + 2) (rowB ev (s.ed.map encEd) Te) := ⟨_, rfl⟩
  have hM2 : H2 b = some ⟨0, (encSg s).map .p⟩ := by rw [hH2]; exact Erf @hM
  rw [← hH2]
  refine P2 (ers H2 b) (sub_ers _ _) ?_
  have hEd2 : H2 (b + 2) = some (rowB ev (s.ed.map encEd) Te) := by rw [hH2]; exact upd_same _ _ _
  simp -implicitDefEqProofs only [go_sem, ↓reduceIte, Nat.reduceEqDiff, Nat.reduceAdd, Nat.reduceLT, Nat.reduceLeDiff, reduceCtorEq, Int.toNat_natCast, e1, hM2, encSg, hEd2]
  refine ⟨sub_at _ hM2, sub_at _ hM2, ?_⟩
  refine hK _ _ _ ?_; clear hK K
  refine Am.AWP.genT (fun st => st.n = 3 ∧ st.t 1 = .one (.ptr b 0 0) ∧ st.t 2 = .one (.ptr (b + 1) 0 0) ∧ st.h b = some ⟨0, [.p (.v (.int .u64 s.gen)), .p (.sl 6 (s.t.map encF)), .win (b + 2) ev 0 s.ed.length ec, .p (.sl 1 (s.names.map encS)), .p (.sl 1 (s.dirs.map encS))]⟩ ∧ st.h (b + 1) = some ⟨0, [.p x1, .p x2, .p x3, .p x4, .p x5]⟩ ∧ st.h (b + 2) = some (rowB ev (s.ed.map encEd) Te) ∧ ∀ id, id < b → st.h id = h id)
    ⟨rfl, by exact Erf @e1, by exact Erf @e2, upd_same _ _ _, (upd_ne _ _ _ _ (by omega)).trans (by rw [hH2, upd_ne _ _ _ _ (by omega)]; exact hR), (upd_ne _ _ _ _ (by omega)).trans hEd2, fun id hid => (upd_ne _ _ _ _ (by omega)).trans (by rw [hH2, upd_ne _ _ _ _ (by omega)]; exact ho id hid)⟩ ?_
  clear hM2 hEd2 hH2 hM hR ho e1 e2 hnew
  rintro ⟨t, h1, n⟩ ⟨hn1, e1, e2, hM, hR, hEd, ho⟩
  simp only at hn1 e1 e2 hM hR hEd ho
  subst hn1
  refine AWP.known (fun hnew => ?_)
  simp only at hnew
  refine AWP.seqRegC 10 [] [] (h1) (Sub.refl _) mixed (by kernel_rfl) (by kernel_rfl) (by kernel_rfl) (fun K hK => ?_) (by kernel_rfl); simp -implicitDefEqProofs only [go_sem, ↓reduceIte, Nat.reduceEqDiff, Nat.reduceAdd, Nat.reduceLT, Nat.reduceLeDiff, reduceCtorEq, Int.toNat_natCast, List.take_succ_cons, List.take_zero, List.drop_succ_cons, List.drop_zero,  e1, hM]
  refine CallD.use (clone_str_ok (s.names.map encS) (okEs_str s.names) _ _ (by omega)) body_95 ?_
  rintro _ _ ⟨nv, nc, Tn, k1, k2, k3, rfl, rfl⟩
  refine ⟨(Sub.refl _).new (hnew _ (Nat.le_refl _)), ?_⟩
  rw [hnm] at k1 k2 ⊢
  refine Evf (jn2 @e1 @hM) ?_
  refine CallD.use (clone_str_ok (s.dirs.map encS) (okEs_str s.dirs) _ _ (by omega)) body_95 ?_
  rintro _ _ ⟨dv, dc, Td, l1, l2, l3, rfl, rfl⟩
  refine ⟨((Sub.refl _).new (hnew _ (Nat.le_refl _))).new ?_, ?_⟩
  · show upd h1 (b + 3) _ (b + 4) = none
    rw [upd_ne _ _ _ _ (by omega)]; exact hnew _ (by omega)
  rw [hdm] at l1 l2 ⊢
  refine Evf (jn2 @e1 @hM) ?_
  obtain ⟨H2, hH2⟩ : ∃ H2, H2 = upd (upd h1 (b + 3) (rowB nv (s.names.map encS) Tn)) (b + 4) (rowB dv (s.dirs.map encS) Td) := ⟨_, rfl⟩
  have hM2 : H2 b = some ⟨0, [.p (.v (.int .u64 s.gen)), .p (.sl 6 (s.t.map encF)), .win (b + 2) ev 0 s.ed.length ec, .p (.sl 1 (s.names.map encS)), .p (.sl 1 (s.dirs.map encS))]⟩ := by rw [hH2]; exact Erf @hM
  have hN2 : H2 (b + 3) = some (rowB nv (s.names.map encS) Tn) := by rw [hH2, upd_ne _ _ _ _ (by omega)]; exact upd_same _ _ _
  have hD2 : H2 (b + 4) = some (rowB dv (s.dirs.map encS) Td) := by rw [hH2]; exact upd_same _ _ _
  have ho2 : ∀ id, id < b + 3 → H2 id = h1 id := fun id hid => by rw [hH2, upd_ne _ _ _ _ (by omega), upd_ne _ _ _ _ (by omega)]
  rw [← hH2]
  refine P2 (ers H2 b) (sub_ers _ _) ?_
  refine Evf (jn4 @e1 @hM2 @hN2 @hD2) ?_
  refine ⟨sub_at _ hM2, sub_at _ hM2, ?_⟩
  refine hK _ _ _ ?_; clear hK K
  refine Am.AWP.genT (fun st => st.n = 5 ∧ oSI s ev ec Te nv nc Tn dv dc Td h b st) ⟨rfl, upd_same _ _ _, ⟨x1, x2, x3, x4, x5, (upd_ne _ _ _ _ (by omega)).trans ((ho2 _ (by omega)).trans hR)⟩, (upd_ne _ _ _ _ (by omega)).trans ((ho2 _ (by omega)).trans hEd), (upd_ne _ _ _ _ (by omega)).trans hN2, (upd_ne _ _ _ _ (by omega)).trans hD2, fun id hid => (upd_ne _ _ _ _ (by omega)).trans ((ho2 _ (by omega)).trans (ho id hid)), by exact Erf @e1, by exact Erf @e2⟩ ?_
  clear hM2 hN2 hD2 ho2 hH2 hM hR hEd ho e1 e2 hnew
  rintro ⟨t, h1, n⟩ ⟨hn1, hM, ⟨x1, x2, x3, x4, x5, hR⟩, hEd, hN, hD, ho, e1, e2⟩
  simp only at hn1 hM hR hEd hN hD ho e1 e2
  subst hn1
  refine AWP.seq ?_
  refine AWP.seqReg (by kernel_rfl) (fun E K hE hK => ?_); simp -implicitDefEqProofs only [go_sem, ↓reduceIte, Nat.reduceEqDiff, Nat.reduceAdd, Nat.reduceLT, Nat.reduceLeDiff, reduceCtorEq, Int.toNat_natCast, e1, hM, hEd, rowB]; refine hK _ _ _ ?_; clear hE hK K E
  have hcl : ∀ i, (hi : i < s.ed.length) → ((s.ed.map encEd).flatten.map Cell.p ++ Te)[i * 5 + 4]? = some (.p (.sl 1 (s.ed[i].data.map encO))) ∧ List.take 5 (List.drop (i * 5) ((s.ed.map encEd).flatten.map Cell.p ++ Te)) = (encEd s.ed[i]).map .p := by
    intro i hi
    have he : (s.ed.map encEd)[i]? = some (encEd s.ed[i]) := by rw [List.getElem?_map, List.getElem?_eq_getElem hi]; rfl
    refine ⟨?_, row_part Te (okEs_ed s.ed) he⟩
    have := row_cells (okEs_ed s.ed) ev Te i (encEd s.ed[i]) he 4 (.sl 1 (s.ed[i].data.map encO)) rfl
    rwa [Nat.zero_add] at this
  have hcl2 : ((s.ed.map encEd).flatten.map Cell.p ++ Te).length = s.ed.length * 5 + Te.length := by rw [List.length_append, List.length_map, okEs_len (okEs_ed s.ed), hem]
  refine AWP.block ?_
  refine AWP.loopM 5 (fun k st => ∃ i, i ≤ s.ed.length ∧ k = s.ed.length - i ∧ oSI s ev ec Te nv nc Tn dv dc Td h b st ∧ st.t 26 = .one (.win (b + 2) ev 0 s.ed.length ec) ∧ st.t 27 = IntV s.ed.length ∧ st.t 28 = IntV (i : Nat)) s.ed.length rfl ⟨0, Nat.zero_le _, rfl, ⟨hM, ⟨x1, x2, x3, x4, x5, hR⟩, hEd, hN, hD, ho, by exact Erf @e1, by exact Erf @e2⟩, by exact Er, by exact Er, by exact Er⟩ ?_
  clear hM hR hEd hN hD ho e1 e2
  rintro k ⟨t, hh, n⟩ ⟨i, hi, rfl, ⟨hM, ⟨x1, x2, x3, x4, x5, hR⟩, hEd, hN, hD, ho, e1, e2⟩, e26, e27, e28⟩ hn1
  simp only at hM hR hEd hN hD ho e1 e2 e26 e27 e28 hn1
  subst hn1
  refine Rkf (jn2 @e27 @e28) ?_
  refine AWP.seq ?_
  by_cases hlt : (i : Int) < s.ed.length
  · have hw1 : IntKind.i64.wrap ((i : Int) + 1) = ((i + 1 : Nat) : Int) := by rw [wrap_i64 (by omega) (by omega)]; rfl
    have hi2 : i < s.ed.length := by omega
    obtain ⟨hc1, hc2⟩ := hcl i hi2
    obtain ⟨d, hd⟩ : ∃ d, s.ed[i] = d := ⟨_, rfl⟩
    rw [hd] at hc1 hc2
    have hdm2 : d ∈ s.ed := by rw [← hd]; exact List.getElem_mem hi2
    have hEd' : hh (b + 2) = some ⟨ev, (s.ed.map encEd).flatten.map Cell.p ++ Te⟩ := hEd
    generalize hL : (s.ed.map encEd).flatten.map Cell.p ++ Te = L at hEd' hc1 hc2 hcl2
    have hle : i * 5 + 5 ≤ L.length := by omega
    have hsc := same_cell hc1
    refine Btf @hlt ?_
    refine AWP.skip ?_
    refine Ev ?_
    refine AWP.seq ?_
    refine AWP.block ?_
    refine Rgf (jn5 @e26 @e28 @hEd' @hlt @hc2) (fun E K hE hK => ?_)
    repeat (refine ⟨by omega, ?_⟩)
    refine hK _ _ _ ?_; clear hE hK K E
    refine AWP.rgD [38] [OctV d.data] [b + 2] mixed (by kernel_rfl) (by kernel_rfl) (fun K hK => ?_) (by kernel_rfl); simp -implicitDefEqProofs only [go_sem, ↓reduceIte, Nat.reduceEqDiff, Nat.reduceAdd, Nat.reduceLT, Nat.reduceLeDiff, reduceCtorEq, Int.toNat_natCast, e1, hM, hEd', hlt, hsc]
    refine CallP.use (fun _ _ _ => (clone_oc_ok (d.data.map encO) (okEs_oct d.data) _ _ (by rw [List.length_map]; have := z.data d hdm2; omega)).rowFrz (okEs_oct d.data)) body_83 ?_
    refine Evf (jn2 @hEd' @hsc) ?_
    refine ⟨⟨by omega, by omega⟩, by omega, sub_at _ (by exact Erf @hEd'), ?_⟩
    refine hK _ _ _ ?_; clear hK K
    refine Ev ?_
    refine Raf (jn2 @e28 @hw1) (fun E K hE hK => ?_); refine hK _ _ _ ?_; clear hE hK K E
    refine ⟨(by decide : 5 ≤ 6), s.ed.length - (i + 1), by omega, i + 1, by omega, rfl, ⟨cutH_same (Nat.lt_add_of_pos_right (by decide)) (by exact Erf @hM) (by simp [lowCs, lowC]), ⟨x1, x2, x3, x4, x5, cutH_same (Nat.add_lt_add_left (by decide) _) (by exact Erf @hR) (by simp [lowCs, lowC])⟩, ?_, cutH_same (Nat.add_lt_add_left (by decide) _) (by exact Erf @hN) (lowCs_app (lowCs_p _ _) (lowCs_mono (Nat.zero_le _) k3)), cutH_same (Nat.add_lt_add_left (by decide) _) (by exact Erf @hD) (lowCs_app (lowCs_p _ _) (lowCs_mono (Nat.zero_le _) l3)), cutH_outer (Nat.le_add_right _ _) (Ouf @ho) hlow, by refine Evf @e1 ?_; exact cutV_ptr (Nat.lt_add_of_pos_right (by decide)), by refine Evf @e2 ?_; exact cutV_ptr (Nat.add_lt_add_left (by decide) _)⟩, by refine Evf @e26 ?_; exact cutV_win (Nat.add_lt_add_left (by decide) _), by exact Ecf @e27, by exact Er⟩
    rw [← hL]
    exact cutH_same (Nat.add_lt_add_left (by decide) _) (by exact Er) (lowCs_app (lowCs_p _ _) (lowCs_mono (Nat.zero_le _) g3))
  · refine Bff @hlt ?_
    refine AWP.exit ?_
    refine Ev ?_
    refine AWP.seqReg (by kernel_rfl) (fun E K hE hK => ?_); simp -implicitDefEqProofs only [go_sem, ↓reduceIte, Nat.reduceEqDiff, Nat.reduceAdd, Nat.reduceLT, Nat.reduceLeDiff, reduceCtorEq, Int.toNat_natCast, e1, e2, hM, hR, hEd, hN, hD, rowB]
    refine hK _ _ _ ?_; clear hE hK K E
    refine AWP.ret ?_
    have low0 : ∀ (v : Nat) (es : List (List PD)) (T : List Cell), lowCs 0 T = true → ∀ (h : Heap) (LL : List (Nat × List Cell)) (i : Nat) (c d : Cell), (rowB v es T).cells[i]? = some c → (rowB v es T).cells[i]? = some d → renC h b LL c d := fun v es T hT h LL i c d q1 q2 => by
      rw [q1] at q2; injection q2 with q2
      exact .inl ⟨q2, lowCs_mem (lowCs_app (lowCs_p _ _) (lowCs_mono (Nat.zero_le _) hT)) c (List.mem_of_getElem? q1)⟩
    refine Ends.keepL [(b + 2, rowB ev (s.ed.map encEd) Te, (rowB ev (s.ed.map encEd) Te).cells), (b + 3, rowB nv (s.names.map encS) Tn, (rowB nv (s.names.map encS) Tn).cells), (b + 4, rowB dv (s.dirs.map encS) Td, (rowB dv (s.dirs.map encS) Td).cells)] rfl H (Ouf @ho) (fun x hx => ?_) (by simp) (r0 := .agg [.p (.v (.int .u64 s.gen)), .p (.sl 6 (s.t.map encF)), .win (b + 2) ev 0 s.ed.length ec, .win (b + 3) nv 0 s.names.length nc, .win (b + 4) dv 0 s.dirs.length dc]) (by rw [show Tryz.f110.results.toList = [.cell 2 63] from rfl]; exact Erf @e2) (r := .agg [.p (.v (.int .u64 s.gen)), .p (.sl 6 (s.t.map encF)), .win b ev 0 s.ed.length ec, .win (b + 1) nv 0 s.names.length nc, .win (b + 2) dv 0 s.dirs.length dc]) (.agg rfl (fun i c d hc hd => ?_)) (fun h' hk hlo => ?_)
    · simp only [List.mem_cons, List.not_mem_nil, or_false] at hx
      rcases hx with rfl | rfl | rfl
      · exact ⟨Nat.le_add_right _ _, by exact Erf @hEd, rfl, fun i c d q1 q2 => low0 _ _ _ g3 _ _ i c d q1 q2⟩
      · exact ⟨Nat.le_add_right _ _, by exact Erf @hN, rfl, fun i c d q1 q2 => low0 _ _ _ k3 _ _ i c d q1 q2⟩
      · exact ⟨Nat.le_add_right _ _, by exact Erf @hD, rfl, fun i c d q1 q2 => low0 _ _ _ l3 _ _ i c d q1 q2⟩
    · match i with
      | 0 | 1 => simp at hc hd; subst hc; subst hd; exact renC_p _
      | 2 => simp at hc hd; subst hc; subst hd; exact .inr (.inr (.inr (.inl ⟨0, b + 2, _, ev, 0, _, ec, rfl, rfl, rfl⟩)))
      | 3 => simp at hc hd; subst hc; subst hd; exact .inr (.inr (.inr (.inl ⟨1, b + 3, _, nv, 0, _, nc, rfl, rfl, rfl⟩)))
      | 4 => simp at hc hd; subst hc; subst hd; exact .inr (.inr (.inr (.inl ⟨2, b + 4, _, dv, 0, _, dc, rfl, rfl, rfl⟩)))
      | i + 5 => simp at hc
    · exact ⟨ev, ec, nv, nc, dv, dc, rfl, ⟨Te, hk 0 _ rfl, by rw [hem]; omega, g3⟩, ⟨Tn, hk 1 _ rfl, by rw [hnm]; omega, k3⟩, ⟨Td, hk 2 _ rfl, by rw [hdm]; omega, l3⟩, hlo⟩
end Go.Proofs.YtihgnpboabpchaaGreatDoor
namespace Go.Proofs.YtihgnpboabpchaaGreatDoor
set_option linter.unusedSimpArgs false
set_option linter.unusedVariables false
set_option linter.unnecessarySimpa false
open Go Am
set_option maxRecDepth 100000
abbrev swC (s : Sg) (e : Int) (E ev ec N nv nc D dv dc : Nat) : List Cell := [.p (.v (.int .u64 s.gen)), .p (.sl 6 (s.t.map encF)), .win E ev 0 s.ed.length ec, .win N nv 0 s.names.length nc, .win D dv 0 s.dirs.length dc, .p (.v (.int .i64 e))]
theorem RowAt.ofE {h h' : Heap} {id ver cap sz : Nat} {es : List (List PD)} (r : RowAt h id ver cap sz es) (e : h' id = h id) : RowAt h' id ver cap sz es := by
  obtain ⟨T, h1, h2, h3⟩ := r
  exact ⟨T, e.trans h1, h2, h3⟩
structure SW (h : Heap) (W E N D : Nat) (s : Sg) (e : Int) : Prop where
  w : ∃ ev ec nv nc dv dc, h W = some ⟨0, swC s e E ev ec N nv nc D dv dc⟩ ∧ RowAt h E ev ec 5 (s.ed.map encEd) ∧ RowAt h N nv nc 1 (s.names.map encS) ∧ RowAt h D dv dc 1 (s.dirs.map encS)
  d1 : ¬ W = E
  d2 : ¬ W = N
  d3 : ¬ W = D
  d4 : ¬ E = N
  d5 : ¬ E = D
  d6 : ¬ N = D
theorem SW.of {h h' : Heap} {W E N D : Nat} {s : Sg} {e : Int} (w : SW h W E N D s e) (e1 : h' W = h W) (e2 : h' E = h E) (e3 : h' N = h N) (e4 : h' D = h D) : SW h' W E N D s e := by
  obtain ⟨ev, ec, nv, nc, dv, dc, w1, w2, w3, w4⟩ := w.w
  exact ⟨⟨ev, ec, nv, nc, dv, dc, e1.trans w1, w2.ofE e2, w3.ofE e3, w4.ofE e4⟩, w.d1, w.d2, w.d3, w.d4, w.d5, w.d6⟩
abbrev seC (e : Int) : List Cell := [.p (.v (.int .u64 0)), .p (.sl 6 []), .p (.sl 5 []), .p (.sl 1 []), .p (.sl 1 []), .p (.v (.int .i64 e))]
def startI (s : Sg) (names : List S) (h : Heap) (b i : Nat) (st : St) : Prop :=
  (∀ id, id < b → st.h id = h id) ∧ st.h b = some ⟨0, (encSg s).map .p⟩ ∧ st.h (b + 1) = some ⟨0, [.p (.v (.int .u64 0)), .p (.v (.slice none 0 0)), .p (.v (.slice none 0 0)), .p (.v (.slice none 0 0)), .p (.v (.slice none 0 0)), .p (.v (.int .i64 ((names.take i).foldl (fun e p => if e = 0 then chkN p else e) (checkS keyR s))))]⟩ ∧
    st.t 2 = .one (.ptr b 0 0) ∧ st.t 5 = .one (.ptr (b + 1) 0 0) ∧ st.t 12 = ListV names ∧ st.t 13 = IntV names.length ∧ st.t 14 = IntV (i : Nat)
theorem sstartBad_ok (s : Sg) (names : List S) (z : SzS s) (hnl : names.length ≤ 1000) (hs : startS keyR s names ≠ 0) (h : Heap) (b : Nat) :
    ACalls Tryz.prog 57 [SgV s, ListV names] h b 1 (fun r h' => r = .one (.ptr b 0 0) ∧ h' = upd h b ⟨0, seC (startS keyR s names)⟩) := by
  refine ACalls.enter Tryz.func57 rfl (by simp [Tryz.ntmps57]) (fun ι w hn H => ?_)
  have hlow := H.lowCells
  have hnm : (names.map encS).length = names.length := List.length_map _
  refine Rk ?_
  refine Rg (fun E K hE hK => ?_)
  refine Us (sCheck_ok s z.t z.ed z.nm z.dr _ _) body_35 ?_
  refine hK _ _ _ ?_; clear hE hK K E
  refine AWP.seq ?_
  refine Rkf @hnm ?_
  refine AWP.block ?_
  refine AWP.loopM 2 (fun k st => ∃ i, i ≤ names.length ∧ k = names.length - i ∧ startI s names h b i st) names.length rfl ⟨0, Nat.zero_le _, rfl, Ou, by exact Er, by exact Er, by exact Er, by exact Er, by exact Er, by exact Er, by exact Er⟩ ?_
  rintro k ⟨t, hh, n⟩ ⟨i, hi, rfl, ho, hB, hW, e2, e5, e12, e13, e14⟩ hn1
  simp only at ho hB hW e2 e5 e12 e13 e14 hn1
  subst hn1
  refine Rkf (jn2 @e13 @e14) ?_
  refine AWP.seq ?_
  by_cases hlt : (i : Int) < names.length
  · have hw1 : IntKind.i64.wrap ((i : Int) + 1) = ((i + 1 : Nat) : Int) := by rw [wrap_i64 (by omega) (by omega)]; rfl
    have hi2 : i < names.length := by omega
    have hge : (names.map encS).getD i [] = encS names[i] := getD_map encS names i hi2
    obtain ⟨p, hp⟩ : ∃ p, names[i] = p := ⟨_, rfl⟩
    rw [hp] at hge
    obtain ⟨e, he⟩ : ∃ e, (names.take i).foldl (fun e p => if e = 0 then chkN p else e) (checkS keyR s) = e := ⟨_, rfl⟩
    have hnext : (names.take (i + 1)).foldl (fun e p => if e = 0 then chkN p else e) (checkS keyR s) = if e = 0 then chkN p else e := by
      rw [List.take_add_one, List.getElem?_eq_getElem hi2, hp, List.foldl_append, he]; rfl
    rw [he] at hW
    refine Btf @hlt ?_
    refine AWP.skip ?_
    refine Ev ?_
    refine AWP.seq ?_
    refine AWP.block ?_
    refine AWP.seqReg (by kernel_rfl) (fun E K hE hK => ?_); simp -implicitDefEqProofs only [go_sem, ↓reduceIte, Nat.reduceEqDiff, Nat.reduceAdd, Nat.reduceLT, Nat.reduceLeDiff, reduceCtorEq, Int.toNat_natCast, e12, e14, hnm, hlt, hge, encS]
    refine ⟨by omega, ?_⟩
    refine hK _ _ _ ?_; clear hE hK K E
    by_cases c : e = 0
    · have c' : (e = 0) = True := eq_true c
      refine Rkf (jn3 @e5 @hW @c') ?_
      refine Bt ?_
      refine Raf (jn2 @e5 @hW) (fun E K hE hK => ?_)
      refine Us (Check_ok (mkS p) _ _) body_31 ?_
      refine Evf (jn3 @mkS_list @e5 @hW) ?_
      refine hK _ _ _ ?_; clear hE hK K E
      refine Ev ?_
      refine Raf (jn2 @e14 @hw1) (fun E K hE hK => ?_); refine hK _ _ _ ?_; clear hE hK K E
      exact ⟨Nat.le_refl _, names.length - (i + 1), by omega, i + 1, by omega, rfl, cutH_outer (Nat.le_add_right _ _) (Ouf @ho) hlow, cutH_same (Nat.lt_add_of_pos_right (by decide)) (by exact Erf @hB) (by simp [lowCs, lowC]), by rw [hnext, if_pos c]; exact cutH_same (Nat.add_lt_add_left (by decide) _) (by exact Er) (by simp [lowCs, lowC]), by refine Evf @e2 ?_; exact cutV_ptr (Nat.lt_add_of_pos_right (by decide)), by refine Evf @e5 ?_; exact cutV_ptr (Nat.add_lt_add_left (by decide) _), by exact Ecf @e12, by exact Ecf @e13, by exact Er⟩
    · have c' : (e = 0) = False := eq_false c
      refine Rkf (jn3 @e5 @hW @c') ?_
      refine Bf ?_
      refine AWP.skip ?_
      refine Ev ?_
      refine Raf (jn2 @e14 @hw1) (fun E K hE hK => ?_); refine hK _ _ _ ?_; clear hE hK K E
      exact ⟨Nat.le_refl _, names.length - (i + 1), by omega, i + 1, by omega, rfl, cutH_outer (Nat.le_add_right _ _) (Ouf @ho) hlow, cutH_same (Nat.lt_add_of_pos_right (by decide)) (by exact Erf @hB) (by simp [lowCs, lowC]), by rw [hnext, if_neg c]; exact cutH_same (Nat.add_lt_add_left (by decide) _) (by exact Erf @hW) (by simp [lowCs, lowC]), by refine Evf @e2 ?_; exact cutV_ptr (Nat.lt_add_of_pos_right (by decide)), by refine Evf @e5 ?_; exact cutV_ptr (Nat.add_lt_add_left (by decide) _), by exact Ecf @e12, by exact Ecf @e13, by exact Er⟩
  · refine Bff @hlt ?_
    refine AWP.exit ?_
    refine Ev ?_
    have hil : i = names.length := by omega
    have hst : (names.take i).foldl (fun e p => if e = 0 then chkN p else e) (checkS keyR s) = startS keyR s names := by rw [hil, List.take_length]; rfl
    rw [hst] at hW
    have c' : (startS keyR s names = 0) = False := eq_false hs
    refine AWP.seq ?_
    refine Rkf (jn3 @e5 @hW @c') ?_
    refine Bs ?_
    refine Rkf @e5 ?_
    refine AWP.nilsAt (b + 1) (cs := seC (startS keyR s names)) hW ⟨.inl rfl, .nil 6, .nil 5, .nil 1, .nil 1, .inl rfl, trivial⟩ ?_
    refine AWP.ret ?_
    exact Ends.row (id := b + 1) (blk := ⟨0, seC (startS keyR s names)⟩) hn H (Ouf @ho) (Nat.le_succ _) (upd_same _ _ _) (by simp [lowCs, lowC]) (r0 := .one (.ptr (b + 1) 0 0)) (by rw [show Tryz.f57.results.toList = [.tmp 4] from rfl]; exact Er) (.one (.inr (.inr (.inr (.inr ⟨0, b + 1, _, 0, 0, rfl, rfl, rfl⟩))))) ⟨rfl, rfl⟩
theorem sstart_ok (s : Sg) (names : List S) (z : SzS s) (hnl : names.length ≤ 1000) (hs : startS keyR s names = 0) (h : Heap) (b : Nat) :
    ACalls Tryz.prog 57 [SgV s, ListV names] h b 4 (fun r h' => r = .one (.ptr b 0 0) ∧ SW h' b (b + 1) (b + 2) (b + 3) s 0 ∧ ∀ id, id < b → h' id = h id) := by
  refine ACalls.enter Tryz.func57 rfl (by simp [Tryz.ntmps57]) (fun ι w hn H => ?_)
  have hlow := H.lowCells
  have hnm : (names.map encS).length = names.length := List.length_map _
  refine Rk ?_
  refine Rg (fun E K hE hK => ?_)
  refine Us (sCheck_ok s z.t z.ed z.nm z.dr _ _) body_35 ?_
  refine hK _ _ _ ?_; clear hE hK K E
  refine AWP.seq ?_
  refine Rkf @hnm ?_
  refine AWP.block ?_
  refine AWP.loopM 2 (fun k st => ∃ i, i ≤ names.length ∧ k = names.length - i ∧ startI s names h b i st) names.length rfl ⟨0, Nat.zero_le _, rfl, Ou, by exact Er, by exact Er, by exact Er, by exact Er, by exact Er, by exact Er, by exact Er⟩ ?_
  rintro k ⟨t, hh, n⟩ ⟨i, hi, rfl, ho, hB, hW, e2, e5, e12, e13, e14⟩ hn1
  simp only at ho hB hW e2 e5 e12 e13 e14 hn1
  subst hn1
  refine Rkf (jn2 @e13 @e14) ?_
  refine AWP.seq ?_
  by_cases hlt : (i : Int) < names.length
  · have hw1 : IntKind.i64.wrap ((i : Int) + 1) = ((i + 1 : Nat) : Int) := by rw [wrap_i64 (by omega) (by omega)]; rfl
    have hi2 : i < names.length := by omega
    have hge : (names.map encS).getD i [] = encS names[i] := getD_map encS names i hi2
    obtain ⟨p, hp⟩ : ∃ p, names[i] = p := ⟨_, rfl⟩
    rw [hp] at hge
    obtain ⟨e, he⟩ : ∃ e, (names.take i).foldl (fun e p => if e = 0 then chkN p else e) (checkS keyR s) = e := ⟨_, rfl⟩
    have hnext : (names.take (i + 1)).foldl (fun e p => if e = 0 then chkN p else e) (checkS keyR s) = if e = 0 then chkN p else e := by
      rw [List.take_add_one, List.getElem?_eq_getElem hi2, hp, List.foldl_append, he]; rfl
    rw [he] at hW
    refine Btf @hlt ?_
    refine AWP.skip ?_
    refine Ev ?_
    refine AWP.seq ?_
    refine AWP.block ?_
    refine AWP.seqReg (by kernel_rfl) (fun E K hE hK => ?_); simp -implicitDefEqProofs only [go_sem, ↓reduceIte, Nat.reduceEqDiff, Nat.reduceAdd, Nat.reduceLT, Nat.reduceLeDiff, reduceCtorEq, Int.toNat_natCast, e12, e14, hnm, hlt, hge, encS]
    refine ⟨by omega, ?_⟩
    refine hK _ _ _ ?_; clear hE hK K E
    by_cases c : e = 0
    · have c' : (e = 0) = True := eq_true c
      refine Rkf (jn3 @e5 @hW @c') ?_
      refine Bt ?_
      refine Raf (jn2 @e5 @hW) (fun E K hE hK => ?_)
      refine Us (Check_ok (mkS p) _ _) body_31 ?_
      refine Evf (jn3 @mkS_list @e5 @hW) ?_
      refine hK _ _ _ ?_; clear hE hK K E
      refine Ev ?_
      refine Raf (jn2 @e14 @hw1) (fun E K hE hK => ?_); refine hK _ _ _ ?_; clear hE hK K E
      exact ⟨Nat.le_refl _, names.length - (i + 1), by omega, i + 1, by omega, rfl, cutH_outer (Nat.le_add_right _ _) (Ouf @ho) hlow, cutH_same (Nat.lt_add_of_pos_right (by decide)) (by exact Erf @hB) (by simp [lowCs, lowC]), by rw [hnext, if_pos c]; exact cutH_same (Nat.add_lt_add_left (by decide) _) (by exact Er) (by simp [lowCs, lowC]), by refine Evf @e2 ?_; exact cutV_ptr (Nat.lt_add_of_pos_right (by decide)), by refine Evf @e5 ?_; exact cutV_ptr (Nat.add_lt_add_left (by decide) _), by exact Ecf @e12, by exact Ecf @e13, by exact Er⟩
    · have c' : (e = 0) = False := eq_false c
      refine Rkf (jn3 @e5 @hW @c') ?_
      refine Bf ?_
      refine AWP.skip ?_
      refine Ev ?_
      refine Raf (jn2 @e14 @hw1) (fun E K hE hK => ?_); refine hK _ _ _ ?_; clear hE hK K E
      exact ⟨Nat.le_refl _, names.length - (i + 1), by omega, i + 1, by omega, rfl, cutH_outer (Nat.le_add_right _ _) (Ouf @ho) hlow, cutH_same (Nat.lt_add_of_pos_right (by decide)) (by exact Erf @hB) (by simp [lowCs, lowC]), by rw [hnext, if_neg c]; exact cutH_same (Nat.add_lt_add_left (by decide) _) (by exact Erf @hW) (by simp [lowCs, lowC]), by refine Evf @e2 ?_; exact cutV_ptr (Nat.lt_add_of_pos_right (by decide)), by refine Evf @e5 ?_; exact cutV_ptr (Nat.add_lt_add_left (by decide) _), by exact Ecf @e12, by exact Ecf @e13, by exact Er⟩
  · refine Bff @hlt ?_
    refine AWP.exit ?_
    refine Ev ?_
    have hil : i = names.length := by omega
    have hst : (names.take i).foldl (fun e p => if e = 0 then chkN p else e) (checkS keyR s) = startS keyR s names := by rw [hil, List.take_length]; rfl
    rw [hst] at hW
    have c' : (startS keyR s names = 0) = True := eq_true hs
    rw [hs] at hW
    refine AWP.seq ?_
    refine Rkf (jn2 @e5 @hW) ?_
    refine Bt ?_
    refine AWP.reg (by kernel_rfl) (fun E K hE hK => ?_); simp -implicitDefEqProofs only [go_sem, ↓reduceIte, Nat.reduceEqDiff, Nat.reduceAdd, Nat.reduceLT, Nat.reduceLeDiff, reduceCtorEq, Int.toNat_natCast, e2, e5, hB, encSg]
    refine CallR.use (sown_ok s z _ _) body_110 ?_
    rintro _ h2 ⟨ev, ec, nv, nc, dv, dc, rfl, r1, r2, r3, ho2⟩
    have hW2 := (ho2 (b + 1) (show b + 1 < b + 2 by omega)).trans hW
    refine Evf (jn2 @e5 @hW2) ?_
    obtain ⟨Te, qe1, qe2, qe3⟩ := r1
    obtain ⟨Tn, qn1, qn2, qn3⟩ := r2
    obtain ⟨Td, qd1, qd2, qd3⟩ := r3
    have vE : ∀ v es T, (rowB v es T).ver = v := fun _ _ _ => rfl
    refine ⟨by rw [show h2 (b + 2) = _ from qe1, show h2 (b + 2 + 1) = _ from qn1, show h2 (b + 2 + 2) = _ from qd1]; simp [vE], ?_⟩
    refine hK _ _ _ ?_; clear hE hK K E
    refine Ev ?_
    refine Rkf @e5 ?_
    refine AWP.ret ?_
    have hWE : ∀ blk : Blk, upd h2 (b + 1) blk (b + 2) = some (rowB ev (s.ed.map encEd) Te) := fun blk => (upd_ne _ _ _ _ (by omega)).trans qe1
    have hWN : ∀ blk : Blk, upd h2 (b + 1) blk (b + 3) = some (rowB nv (s.names.map encS) Tn) := fun blk => (upd_ne _ _ _ _ (by omega)).trans qn1
    have hWD : ∀ blk : Blk, upd h2 (b + 1) blk (b + 4) = some (rowB dv (s.dirs.map encS) Td) := fun blk => (upd_ne _ _ _ _ (by omega)).trans qd1
    have low0 : ∀ (v : Nat) (es : List (List PD)) (T : List Cell), lowCs 0 T = true → ∀ (h : Heap) (LL : List (Nat × List Cell)) (i : Nat) (c d : Cell), (rowB v es T).cells[i]? = some c → (rowB v es T).cells[i]? = some d → renC h b LL c d := fun v es T hT h LL i c d q1 q2 => by
      rw [q1] at q2; injection q2 with q2
      exact .inl ⟨q2, lowCs_mem (lowCs_app (lowCs_p _ _) (lowCs_mono (Nat.zero_le _) hT)) c (List.mem_of_getElem? q1)⟩
    refine Ends.keepL [(b + 1, ⟨0, swC s 0 (b + 2) ev ec (b + 3) nv nc (b + 4) dv dc⟩, swC s 0 (b + 1) ev ec (b + 2) nv nc (b + 3) dv dc), (b + 2, rowB ev (s.ed.map encEd) Te, (rowB ev (s.ed.map encEd) Te).cells), (b + 3, rowB nv (s.names.map encS) Tn, (rowB nv (s.names.map encS) Tn).cells), (b + 4, rowB dv (s.dirs.map encS) Td, (rowB dv (s.dirs.map encS) Td).cells)] rfl H
      (fun id hid => (upd_ne _ _ _ _ (by show ¬ id = b + 1; have hid' : id < b := hid; omega)).trans ((ho2 id (by have hid' : id < b := hid; show id < b + 2; omega)).trans (ho id hid))) (fun x hx => ?_) (by simp) (r0 := .one (.ptr (b + 1) 0 0)) (by rw [show Tryz.f57.results.toList = [.tmp 4] from rfl]; exact Er) (r := .one (.ptr b 0 0)) (.one (.inr (.inr (.inr (.inr ⟨0, b + 1, _, 0, 0, rfl, rfl, rfl⟩))))) (fun h' hk hlo => ?_)
    · simp only [List.mem_cons, List.not_mem_nil, or_false] at hx
      rcases hx with rfl | rfl | rfl | rfl
      · refine ⟨Nat.le_add_right _ _, upd_same _ _ _, rfl, fun i c d q1 q2 => ?_⟩
        match i with
        | 0 | 1 | 5 => simp at q1 q2; subst q1; subst q2; exact renC_p _
        | 2 => simp at q1 q2; subst q1; subst q2; exact .inr (.inr (.inr (.inl ⟨1, b + 2, _, ev, 0, _, ec, rfl, rfl, rfl⟩)))
        | 3 => simp at q1 q2; subst q1; subst q2; exact .inr (.inr (.inr (.inl ⟨2, b + 3, _, nv, 0, _, nc, rfl, rfl, rfl⟩)))
        | 4 => simp at q1 q2; subst q1; subst q2; exact .inr (.inr (.inr (.inl ⟨3, b + 4, _, dv, 0, _, dc, rfl, rfl, rfl⟩)))
        | i + 6 => simp at q1
      · exact ⟨Nat.le_add_right _ _, hWE _, rfl, fun i c d q1 q2 => low0 _ _ _ qe3 _ _ i c d q1 q2⟩
      · exact ⟨Nat.le_add_right _ _, hWN _, rfl, fun i c d q1 q2 => low0 _ _ _ qn3 _ _ i c d q1 q2⟩
      · exact ⟨Nat.le_add_right _ _, hWD _, rfl, fun i c d q1 q2 => low0 _ _ _ qd3 _ _ i c d q1 q2⟩
    · exact ⟨rfl, ⟨⟨ev, ec, nv, nc, dv, dc, hk 0 _ rfl, ⟨Te, hk 1 _ rfl, qe2, qe3⟩, ⟨Tn, hk 2 _ rfl, qn2, qn3⟩, ⟨Td, hk 3 _ rfl, qd2, qd3⟩⟩, by show ¬ b = b + 1; omega, by show ¬ b = b + 2; omega, by show ¬ b = b + 3; omega, by show ¬ b + 1 = b + 2; omega, by show ¬ b + 1 = b + 3; omega, by show ¬ b + 2 = b + 3; omega⟩, hlo⟩
end Go.Proofs.YtihgnpboabpchaaGreatDoor
namespace Go.Proofs.YtihgnpboabpchaaGreatDoor
set_option linter.unusedSimpArgs false
set_option linter.unusedVariables false
set_option linter.unnecessarySimpa false
open Go Am
set_option maxRecDepth 100000
theorem sFindO_ok (l : List S) (p : S) (hr : Ris nmQ l) (hl : l.length ≤ 1000000) (hc : ∀ x ∈ l, okG x) (hp : okG p) {h : Heap} {R ver cap : Nat} (r : RowAt h R ver cap 1 (l.map encS)) (b : Nat) :
    ACalls Tryz.prog 115 [.one (.win R ver 0 l.length cap), StrV p, .one (.clo (.func 65) [] [])] h b 0 (fun r h' => r = .tup [IntV (posK nmQ p l), BoolV (getK nmQ p l).isSome] ∧ h' = h) := by
  obtain ⟨T, h1, _, _⟩ := r
  have hlm : (l.map encS).length = l.length := List.length_map _
  have vw := view_rowT (h := h) (D := fun _ => true) (id := R) (ver := ver) (sz := 1) (m := l.length) (j := 0) (off := 0) (cap := cap) rfl h1 (okEs_str l) (by rw [hlm]; omega) rfl
  rw [List.drop_zero, ← hlm, List.take_length, hlm] at vw
  exact (sFindG_ok l p hr hl hc hp noH b).lend (.cons (.one vw) (.cons (.same _) (.cons (.same _) .nil))) (.tup (fun v hv => by
    simp at hv
    rcases hv with rfl | rfl
    · exact ⟨_, rfl⟩
    · exact ⟨_, rfl⟩))
theorem eFindO_ok (l : List Ed) (p : S) (hr : Ris nmE l) (hl : l.length ≤ 1000000) (hc : ∀ x ∈ l, chkN x.name = 0) (hp : okG p) {h : Heap} {R ver cap : Nat} (r : RowAt h R ver cap 5 (l.map encEd)) (b : Nat) :
    ACalls Tryz.prog 111 [.one (.win R ver 0 l.length cap), StrV p, .one (.clo (.func 88) [] [])] h b 0 (fun r h' => r = .tup [IntV (posK nmE p l), BoolV (getK nmE p l).isSome] ∧ h' = h) := by
  obtain ⟨T, h1, _, _⟩ := r
  have hlm : (l.map encEd).length = l.length := List.length_map _
  have vw := view_rowT (h := h) (D := fun _ => true) (id := R) (ver := ver) (sz := 5) (m := l.length) (j := 0) (off := 0) (cap := cap) rfl h1 (okEs_ed l) (by rw [hlm]; omega) rfl
  rw [List.drop_zero, ← hlm, List.take_length, hlm] at vw
  exact (eFind_ok l p hr hl hc hp noH b).lend (.cons (.one vw) (.cons (.same _) (.cons (.same _) .nil))) (.tup (fun v hv => by
    simp at hv
    rcases hv with rfl | rfl
    · exact ⟨_, rfl⟩
    · exact ⟨_, rfl⟩))
theorem putQ_has {l : List S} (hr : Ris nmQ l) {p : S} (h : (getK nmQ p l).isSome = true) : putQ l p = l := by
  obtain ⟨x, hx⟩ := Option.isSome_iff_exists.1 h
  have := splitK (p := p) hr
  rw [hx, show x = p from (getK_mem hx).2] at this
  exact this.symm
theorem putQ_new {l : List S} (hr : Ris nmQ l) {p : S} (h : ¬ (getK nmQ p l).isSome = true) : putQ l p = l.take (posK nmQ p l) ++ ([p] ++ l.drop (posK nmQ p l)) := by
  have hn : getK nmQ p l = none := by simpa using h
  rw [takeK hr, dropK hr, hn]
  rfl
def putE (l : List S) (e : Int) (p : S) : List S × Int := if (getK nmQ p l).isSome = true ∨ e ≠ 0 then (l, e) else if l.length = 1024 then (l, 6) else (putQ l p, e)
theorem sput_ok (s : Sg) (e : Int) (xs : List S) (p : S) (hr : Ris nmQ xs) (hl : xs.length ≤ 1000000) (hc : ∀ x ∈ xs, okG x) (hp : okG p) (h : Heap) (b W X xv xc E ev ec N nv nc D dv dc : Nat) (hW : W < b) (hX : X < b) (hWX : ¬ W = X) (hE : E < b) (hN : N < b) (hD : D < b)
    (hw : h W = some ⟨0, swC s e E ev ec N nv nc D dv dc⟩) (hrow : RowAt h X xv xc 1 (xs.map encS)) :
    ACalls Tryz.prog 63 [.one (.ptr W 0 0), .one (.win X xv 0 xs.length xc), StrV p] h b 0
      (fun r h' => ∃ xv' xc', r = .one (.win X xv' 0 (putE xs e p).1.length xc') ∧ h' W = some ⟨0, swC s (putE xs e p).2 E ev ec N nv nc D dv dc⟩ ∧ RowAt h' X xv' xc' 1 ((putE xs e p).1.map encS) ∧ ∀ id, id < b → id ≠ W → id ≠ X → h' id = h id) := by
  refine ACalls.enter Tryz.func63 rfl (by simp [Tryz.ntmps63]) (fun ι w hn H => ?_)
  have hlow := H.lowCells
  have hxm : (xs.map encS).length = xs.length := List.length_map _
  have hXW : ¬ X = W := fun e => hWX e.symm
  have hrow0 := hrow
  obtain ⟨T, t1, t2, t3⟩ := hrow
  have fin : ∀ (t : Nat → AV) (hh : Heap) (n xv' xc' : Nat) (l' : List S) (e' : Int), (l', e') = putE xs e p → t 6 = .one (.win X xv' 0 l'.length xc') → hh W = some ⟨0, swC s e' E ev ec N nv nc D dv dc⟩ → RowAt hh X xv' xc' 1 (l'.map encS) → (∀ id, id < b → id ≠ W → id ≠ X → hh id = h id) →
      Am.Ends Tryz.prog ⟨Tryz.f63.ntmps, b, ι, h, w, x0⟩ Tryz.f63 0 (fun r h' => ∃ xv' xc', r = .one (.win X xv' 0 (putE xs e p).1.length xc') ∧ h' W = some ⟨0, swC s (putE xs e p).2 E ev ec N nv nc D dv dc⟩ ∧ RowAt h' X xv' xc' 1 ((putE xs e p).1.map encS) ∧ ∀ id, id < b → id ≠ W → id ≠ X → h' id = h id) ⟨t, hh, n⟩ := by
    intro t hh n xv' xc' l' e' he ht g1 g2 ho
    rw [← he]
    have hlo : ∀ id, id < b → lowH b hh id = hh id := fun id hid => by unfold lowH; rw [if_pos hid]
    refine Ends.low (by rw [show Tryz.f63.results.toList = [.tmp 6] from rfl]; exact Ecf @ht) (.one (.inl ⟨rfl, by simp [lowC, hX]⟩)) (fun id hid blk eb c hc => ?_) ⟨xv', xc', rfl, by rw [hlo W hW]; exact g1, g2.ofE (hlo X hX), fun id hid n1 n2 => by rw [hlo id hid]; exact ho id hid n1 n2⟩
    have hid' : id < b := hid
    by_cases e1 : id = W
    · subst e1
      have eb' : hh id = some blk := eb
      rw [g1] at eb'; injection eb' with eb'; subst eb'
      exact lowCs_mem (by simp [lowCs, lowC, hE, hN, hD]) c hc
    · by_cases e2 : id = X
      · subst e2
        obtain ⟨T', z1, z2, z3⟩ := g2
        have eb' : hh id = some blk := eb
        rw [z1] at eb'; injection eb' with eb'; subst eb'
        exact lowCs_mem (lowCs_app (lowCs_p _ _) (lowCs_mono (Nat.zero_le _) z3)) c hc
      · have eb' : hh id = some blk := eb
        rw [ho id hid' e1 e2] at eb'
        exact hlow id blk eb' c hc
  refine Rk ?_
  refine AWP.seqReg (by kernel_rfl) (fun E K hE hK => ?_); simp -implicitDefEqProofs only [go_sem, ↓reduceIte, Nat.reduceEqDiff, Nat.reduceAdd, Nat.reduceLT, Nat.reduceLeDiff, reduceCtorEq, Int.toNat_natCast, t1, rowB]
  refine Us (sFindO_ok xs p hr hl hc hp hrow0 _) body_115 ?_
  refine hK _ _ _ ?_; clear hE hK K E
  refine AWP.seq ?_
  cases hf : (getK nmQ p xs).isSome
  case true =>
    refine Rkf @hf ?_
    refine Bt ?_
    refine Rk ?_
    refine AWP.ret ?_
    refine Ev ?_
    exact fin _ _ _ xv xc xs e (by unfold putE; rw [if_pos (.inl hf)]) (by exact Er) hw hrow0 (fun _ _ _ _ => rfl)
  by_cases c : e = 0
  case neg =>
    have c' : (e = 0) = False := eq_false c
    refine Rkf (jn3 @hf @hw @c') ?_
    refine Bt ?_
    refine Rk ?_
    refine AWP.ret ?_
    refine Ev ?_
    exact fin _ _ _ xv xc xs e (by unfold putE; rw [if_pos (.inr c)]) (by exact Er) hw hrow0 (fun _ _ _ _ => rfl)
  have c' : (e = 0) = True := eq_true c
  refine Rkf (jn3 @hf @hw @c') ?_
  refine Bs ?_
  have hpe : ¬ ((getK nmQ p xs).isSome = true ∨ e ≠ 0) := by rw [hf]; simp [c]
  refine AWP.seq ?_
  by_cases cl : (xs.length : Int) = 1024
  · have cl' : ((xs.length : Int) = 1024) = True := eq_true cl
    refine AWP.seqReg (by kernel_rfl) (fun E K hE hK => ?_); simp -implicitDefEqProofs only [go_sem, ↓reduceIte, Nat.reduceEqDiff, Nat.reduceAdd, Nat.reduceLT, Nat.reduceLeDiff, reduceCtorEq, Int.toNat_natCast, t1, rowB, cl', decide_true]; refine hK _ _ _ ?_; clear hE hK K E
    refine Bt ?_
    refine Rkf @hw ?_
    refine Rk ?_
    refine AWP.ret ?_
    refine Ev ?_
    exact fin _ _ _ xv xc xs 6 (by unfold putE; rw [if_neg hpe, if_pos (by omega)]) (by exact Er) (by exact Er) (hrow0.ofE (upd_ne _ _ _ _ hXW)) (fun id _ n1 _ => upd_ne _ _ _ _ n1)
  have cl' : ((xs.length : Int) = 1024) = False := eq_false cl
  refine AWP.seqReg (by kernel_rfl) (fun E K hE hK => ?_); simp -implicitDefEqProofs only [go_sem, ↓reduceIte, Nat.reduceEqDiff, Nat.reduceAdd, Nat.reduceLT, Nat.reduceLeDiff, reduceCtorEq, Int.toNat_natCast, t1, rowB, cl', decide_false]; refine hK _ _ _ ?_; clear hE hK K E
  refine Bs ?_
  have hkl := posK_le (nm := nmQ) p xs
  have hXb : ¬ X = b := by omega
  have hWb : ¬ W = b := by omega
  refine Rg (fun E K hE hK => ?_)
  have hb1 : (upd h b ⟨0, [Cell.p (.v (.string (mkS p)))]⟩) b = some ⟨0, [.p (.v (.string (mkS p)))]⟩ := upd_same _ _ _
  have hcap : xs.length ≤ xc := by rw [hxm] at t2; omega
  have ci := insert_str_ok (xs.map encS) [encS p] (okEs_str xs) (okEs_str [p]) (delP (upd h b ⟨0, [Cell.p (.v (.string (mkS p)))]⟩) (fun i => decide (i = b))) (b + 1) X xv xc (posK nmQ p xs) T (by omega) (by unfold delP; rw [if_neg (by simp [hXb]), upd_ne _ _ _ _ hXb]; exact t1) t3 (by rw [hxm]; exact hcap) (by omega) (by rw [hxm]; exact hkl) (by rw [hxm]; omega) (by simp)
  rw [hxm] at ci
  have cs := ci.seal (fun i => decide (i = b)) (.cons (.same _) (.cons (.same _) (.cons (.one (view_1 _ rfl (by simp) hb1)) .nil)))
  refine CallR.use cs body_116 ?_
  rintro _ _ ⟨ver', cap', T', k1, k2, k3, rfl, rfl⟩
  have hdr : (xs.map encS).take (posK nmQ p xs) ++ ([encS p] ++ (xs.map encS).drop (posK nmQ p xs)) = (putQ xs p).map encS := by rw [putQ_new hr (by rw [hf]; decide), List.map_append, List.map_append, List.map_take, List.map_drop]; rfl
  rw [hdr] at k1 k2 ⊢
  rw [List.length_map] at k1 k2 ⊢
  refine Ev ?_
  refine hK _ _ _ ?_; clear hE hK K E
  refine AWP.ret ?_
  refine fin _ _ _ ver' cap' (putQ xs p) e (by unfold putE; rw [if_neg hpe, if_neg (by omega)]) (by exact Er) ?_ ⟨T', upd_same _ _ _, by rw [List.length_map]; omega, k3⟩ (fun id hid n1 n2 => ?_)
  · rw [upd_ne _ _ _ _ hWX]
    unfold delP
    rw [if_neg (by simp [hWb]), upd_ne _ _ _ _ hWb]; exact hw
  · have hidb : ¬ id = b := Nat.ne_of_lt hid
    rw [upd_ne _ _ _ _ n2]
    unfold delP
    rw [if_neg (by simp [hidb]), upd_ne _ _ _ _ hidb]
end Go.Proofs.YtihgnpboabpchaaGreatDoor
namespace Go.Proofs.YtihgnpboabpchaaGreatDoor
set_option linter.unusedSimpArgs false
set_option linter.unusedVariables false
set_option linter.unnecessarySimpa false
open Go Am
set_option maxRecDepth 100000
def SR (h : Heap) (b W B N D : Nat) (s : Sg) (e : Int) (r0 : AV) (r : AV) (h' : Heap) : Prop :=
  r = r0 ∧ SW h' W B N D s e ∧ ∀ id, id < b → id ≠ W → id ≠ B → id ≠ N → id ≠ D → h' id = h id
theorem Ends.SR {C : Ctx} {fn : Func} {st : St} {r0 : AV} {b W B N D : Nat} {s : Sg} {e : Int} (hb : C.b = b) (H : HeapOK C.ι C.h C.b C.w) (hW : W < b) (hEb : B < b) (hN : N < b) (hD : D < b) (hw : SW st.h W B N D s e) (ho : ∀ id, id < b → id ≠ W → id ≠ B → id ≠ N → id ≠ D → st.h id = C.h id)
    (hr : resA Tryz.prog st.h st.t fn.results.toList = some r0) (hf : frzV st.h C.b r0 r0) : Am.Ends Tryz.prog C fn 0 (SR C.h b W B N D s e r0) st := by
  subst hb
  have hlo : ∀ id, id < C.b → lowH C.b st.h id = st.h id := fun id hid => by unfold lowH; rw [if_pos hid]
  refine Ends.low hr hf (fun id hid blk eb c hc => ?_) ⟨rfl, hw.of (hlo W hW) (hlo B hEb) (hlo N hN) (hlo D hD), fun id hid n1 n2 n3 n4 => by rw [hlo id hid]; exact ho id hid n1 n2 n3 n4⟩
  obtain ⟨ev, ec, nv, nc, dv, dc, w1, ⟨T1, a1, a2, a3⟩, ⟨T2, b1, b2, b3⟩, ⟨T3, c1, c2, c3⟩⟩ := hw.w
  by_cases e1 : id = W
  · subst e1; rw [w1] at eb; injection eb with eb; subst eb
    exact lowCs_mem (by simp [lowCs, lowC, hEb, hN, hD]) c hc
  by_cases e2 : id = B
  · subst e2; rw [a1] at eb; injection eb with eb; subst eb
    exact lowCs_mem (lowCs_app (lowCs_p _ _) (lowCs_mono (Nat.zero_le _) a3)) c hc
  by_cases e3 : id = N
  · subst e3; rw [b1] at eb; injection eb with eb; subst eb
    exact lowCs_mem (lowCs_app (lowCs_p _ _) (lowCs_mono (Nat.zero_le _) b3)) c hc
  by_cases e4 : id = D
  · subst e4; rw [c1] at eb; injection eb with eb; subst eb
    exact lowCs_mem (lowCs_app (lowCs_p _ _) (lowCs_mono (Nat.zero_le _) c3)) c hc
  rw [ho id hid e1 e2 e3 e4] at eb
  exact H.lowCells id blk eb c hc
theorem readS_put (s : Sg) (e : Int) (p : S) : readS s e p = ({ s with names := (putE s.names e p).1 }, (putE s.names e p).2) := by
  unfold readS putE
  split
  · rfl
  · split <;> rfl
theorem sread_ok (s : Sg) (e : Int) (p : S) (hr : Ris nmQ s.names) (hl : s.names.length ≤ 1000000) (hc : ∀ x ∈ s.names, okG x) (hp : okG p) (h : Heap) (b W B N D : Nat) (hW : W < b) (hEb : B < b) (hN : N < b) (hD : D < b) (hw : SW h W B N D s e) :
    ACalls Tryz.prog 58 [.one (.ptr W 0 0), StrV p] h b 0 (SR h b W B N D (readS s e p).1 (readS s e p).2 (.tup [])) := by
  refine ACalls.enter Tryz.func58 rfl (by simp [Tryz.ntmps58]) (fun ι w hn H => ?_)
  have hw0 := hw
  obtain ⟨d1, d2, d3, d4, d5, d6⟩ : (¬ W = B) ∧ (¬ W = N) ∧ (¬ W = D) ∧ (¬ B = N) ∧ (¬ B = D) ∧ (¬ N = D) := ⟨hw.d1, hw.d2, hw.d3, hw.d4, hw.d5, hw.d6⟩
  obtain ⟨ev, ec, nv, nc, dv, dc, w1, w2, w3, w4⟩ := hw.w
  rw [readS_put]
  refine Raf @w1 (fun E K hE hK => ?_)
  refine CallR.use (sput_ok s e s.names p hr hl hc hp h (b + 0) W N nv nc B ev ec N nv nc D dv dc hW hN d2 hEb hN hD w1 w3) body_63 ?_
  rintro _ h2 ⟨xv, xc, rfl, g1, g2, g3⟩
  obtain ⟨T2, q1, q2, q3⟩ := g2
  refine Evf @g1 ?_
  refine ⟨by rw [q1]; simp [rowB], ?_⟩
  refine hK _ _ _ ?_; clear hE hK K E
  have nWN : ¬ N = W := fun e => d2 e.symm
  have nWE : ¬ B = W := fun e => d1 e.symm
  have nWD : ¬ D = W := fun e => d3 e.symm
  refine Ends.SR rfl H hW hEb hN hD ⟨⟨ev, ec, xv, xc, dv, dc, upd_same _ _ _, w2.ofE ((upd_ne _ _ _ _ nWE).trans (g3 B hEb nWE d4)), ⟨T2, (upd_ne _ _ _ _ nWN).trans q1, q2, q3⟩, w4.ofE ((upd_ne _ _ _ _ nWD).trans (g3 D hD nWD (fun e => d6 e.symm)))⟩, d1, d2, d3, d4, d5, d6⟩ (fun id hid n1 n2 n3 n4 => (upd_ne _ _ _ _ n1).trans (g3 id hid n1 n3)) (by rw [show Tryz.f58.results.toList = [] from rfl]; rfl) (.tup rfl (fun i c d hc => by simp at hc))
theorem sputBad_ok (e : Int) (p : S) (he : e ≠ 0) (h : Heap) (b W : Nat) (hw : h W = some ⟨0, seC e⟩) :
    ACalls Tryz.prog 63 [.one (.ptr W 0 0), ListV [], StrV p] h b 0 (fun r h' => r = ListV [] ∧ h' = h) := by
  refine ACalls.enter Tryz.func63 rfl (by simp [Tryz.ntmps63]) (fun ι w hn H => ?_)
  have cb := fun h b => bsst_ok [] (mkS p) 65 (fun k => 0) 0 (by decide) body_65 (fun x hx => by cases hx) (Nat.le_refl _) (fun j hj => by simp at hj) (fun j hj => by simp at hj) false ⟨(fun h => by cases h), (fun h => by obtain ⟨hk, _⟩ := h; simp at hk)⟩ h b
  have c' : (e = 0) = False := eq_false he
  refine Rk ?_
  refine Rg (fun E K hE hK => ?_)
  refine Us (cb _ _) body_115 ?_
  refine hK _ _ _ ?_; clear hE hK K E
  refine AWP.seq ?_
  refine Rkf (jn2 @hw @c') ?_
  refine Bt ?_
  refine Rk ?_
  refine AWP.ret ?_
  refine Ev ?_
  exact Ends.pure hn H (fun _ _ => rfl) (r0 := ListV []) (by rw [show Tryz.f63.results.toList = [.tmp 6] from rfl]; exact Er) (.p _) ⟨rfl, rfl⟩
end Go.Proofs.YtihgnpboabpchaaGreatDoor
namespace Go.Proofs.YtihgnpboabpchaaGreatDoor
set_option linter.unusedSimpArgs false
set_option linter.unusedVariables false
set_option linter.unnecessarySimpa false
open Go Am
set_option maxRecDepth 100000
theorem sreadBad_ok (e : Int) (p : S) (he : e ≠ 0) (h : Heap) (b W : Nat) (hW : W < b) (hw : h W = some ⟨0, seC e⟩) :
    ACalls Tryz.prog 58 [.one (.ptr W 0 0), StrV p] h b 0 (fun r h' => r = .tup [] ∧ h' = h) := by
  refine ACalls.enter Tryz.func58 rfl (by simp [Tryz.ntmps58]) (fun ι w hn H => ?_)
  refine Raf @hw (fun E K hE hK => ?_)
  refine Us (sputBad_ok e p he _ _ W hw) body_63 ?_
  refine Evf @hw ?_
  refine hK _ _ _ ?_; clear hE hK K E
  refine Ends.low (by rw [show Tryz.f58.results.toList = [] from rfl]; rfl) (.tup rfl (fun i c d hc => by simp at hc)) (fun id hid blk eb c hc => ?_) ⟨rfl, ?_⟩
  · rw [upd_self hw] at eb
    exact H.lowCells id blk eb c hc
  · exact lowH_eq (fun id hid => by rw [upd_self hw]) hn
theorem frz_sg0 {h : Heap} {b : Nat} : frzV h b (.agg [.p (.v (.int .u64 0)), .p (.v (.slice none 0 0)), .p (.v (.slice none 0 0)), .p (.v (.slice none 0 0)), .p (.v (.slice none 0 0))]) (SgV zSg) := by
  refine .agg rfl (fun i c d hc hd => ?_)
  match i with
  | 0 => simp at hc hd; subst hc; subst hd; exact frz_p _
  | 1 => simp at hc hd; subst hc; subst hd; exact frz_nil 6
  | 2 => simp at hc hd; subst hc; subst hd; exact frz_nil 5
  | 3 => simp at hc hd; subst hc; subst hd; exact frz_nil 1
  | 4 => simp at hc hd; subst hc; subst hd; exact frz_nil 1
  | i + 5 => simp at hc
theorem frz_psS {h : Heap} {b : Nat} (l : List PD) : frzV h b (.agg (l.map .p)) (.agg (l.map .p)) := .agg rfl (fun i c d hc hd => by rw [hc] at hd; injection hd with hd; subst hd; obtain ⟨x, _, rfl⟩ := List.mem_map.1 (List.mem_of_getElem? hc); exact .inl ⟨rfl, rfl⟩)
theorem sendBad_ok (C5 : List Cell) (e : Int) (he : e ≠ 0) (hlen : C5.length = 5) (h : Heap) (b W : Nat) (hW : W < b) (hw : h W = some ⟨0, C5 ++ [.p (.v (.int .i64 e))]⟩) :
    ACalls Tryz.prog 60 [.one (.ptr W 0 0)] h b 0 (fun r h' => r = .tup [SgV zSg, IntV e] ∧ h' = h) := by
  refine ACalls.enter Tryz.func60 rfl (by simp [Tryz.ntmps60]) (fun ι w hn H => ?_)
  have c' : (e = 0) = False := eq_false he
  have hWb : ¬ W = b := by omega
  match C5, hlen with
  | [a0, a1, a2, a3, a4], _ =>
    have hw' : h W = some ⟨0, [a0, a1, a2, a3, a4, .p (.v (.int .i64 e))]⟩ := hw
    refine Rk ?_
    refine AWP.seq ?_
    refine Rkf (jn3 @hw' @hWb @c') ?_
    refine Bt ?_
    refine AWP.seqRegD [] [] [b] mixed (by kernel_rfl) (by kernel_rfl) (fun K hK => .inl ?_) (by kernel_rfl); simp -implicitDefEqProofs only [go_sem, ↓reduceIte, Nat.reduceEqDiff, Nat.reduceAdd, Nat.reduceLT, Nat.reduceLeDiff, reduceCtorEq, Int.toNat_natCast, hw', hWb]
    refine ⟨?_, ?_⟩
    · exact sub_ers _ _
    refine hK _ _ _ ?_; clear hK K
    refine AWP.ret ?_
    refine Ev ?_
    exact Ends.pure hn H Ou (r0 := .tup [.agg [.p (.v (.int .u64 0)), .p (.v (.slice none 0 0)), .p (.v (.slice none 0 0)), .p (.v (.slice none 0 0)), .p (.v (.slice none 0 0))], IntV e]) (by rw [show Tryz.f60.results.toList = [.cell 2 63, .tmp 3] from rfl]; exact Er) (frz_tup2 frz_sg0 (.v _)) ⟨rfl, rfl⟩
theorem sendOk_ok (s : Sg) (h : Heap) (b W B N D : Nat) (hW : W < b) (hBb : B < b) (hN : N < b) (hD : D < b) (hw : SW h W B N D s 0) :
    ACalls Tryz.prog 60 [.one (.ptr W 0 0)] h b 0 (fun r h' => r = .tup [SgV s, IntV 0] ∧ ∀ id, id < b → id ≠ B → id ≠ N → id ≠ D → h' id = h id) := by
  refine ACalls.enter Tryz.func60 rfl (by simp [Tryz.ntmps60]) (fun ι w hn H => ?_)
  have hWb : ¬ W = b := by omega
  have hlow := H.lowCells
  obtain ⟨ev, ec, nv, nc, dv, dc, w1, w2, w3, w4⟩ := hw.w
  have d4 := hw.d4; have d5 := hw.d5; have d6 := hw.d6
  obtain ⟨T1, a1, a2, a3⟩ := w2
  obtain ⟨T2, b1, b2, b3⟩ := w3
  obtain ⟨T3, c1, c2, c3⟩ := w4
  have hBne : ¬ B = b := by omega
  have hNne : ¬ N = b := by omega
  have hDne : ¬ D = b := by omega
  refine Rk ?_
  refine AWP.seq ?_
  refine Rkf (jn2 @w1 @hWb) ?_
  refine Bs ?_
  refine AWP.seqReg (by kernel_rfl) (fun E K hE hK => ?_); simp -implicitDefEqProofs only [go_sem, ↓reduceIte, Nat.reduceEqDiff, Nat.reduceAdd, Nat.reduceLT, Nat.reduceLeDiff, reduceCtorEq, Int.toNat_natCast, w1, hWb, a1, b1, c1, hBne, hNne, hDne, rowB]
  refine hK _ _ _ ?_; clear hE hK K E
  refine AWP.frzAt b 2 (gb := ⟨0, [.p (.v (.int .u64 s.gen)), .p (.sl 6 (s.t.map encF)), .win B ev 0 s.ed.length ec, .win N nv 0 s.names.length nc, .win D dv 0 s.dirs.length dc]⟩) (upd_same _ _ _) rfl (r := ⟨T1, (upd_ne _ _ _ _ hBne).trans a1, a2, a3⟩) (okEs_ed s.ed) (by rw [List.length_map]) (fun e => hBne e.symm) ?_
  refine AWP.frzAt b 3 (gb := ⟨0, [.p (.v (.int .u64 s.gen)), .p (.sl 6 (s.t.map encF)), .p (.sl 5 (s.ed.map encEd)), .win N nv 0 s.names.length nc, .win D dv 0 s.dirs.length dc]⟩) (upd_same _ _ _) rfl (r := ⟨T2, (upd_ne _ _ _ _ hNne).trans ((delH_ne _ _ _ (fun e => d4 e.symm)).trans ((upd_ne _ _ _ _ hNne).trans b1)), b2, b3⟩) (okEs_str s.names) (by rw [List.length_map]) (fun e => hNne e.symm) ?_
  refine AWP.frzAt b 4 (gb := ⟨0, [.p (.v (.int .u64 s.gen)), .p (.sl 6 (s.t.map encF)), .p (.sl 5 (s.ed.map encEd)), .p (.sl 1 (s.names.map encS)), .win D dv 0 s.dirs.length dc]⟩) (upd_same _ _ _) rfl (r := ⟨T3, (upd_ne _ _ _ _ hDne).trans ((delH_ne _ _ _ (fun e => d6 e.symm)).trans ((upd_ne _ _ _ _ hDne).trans ((delH_ne _ _ _ (fun e => d5 e.symm)).trans ((upd_ne _ _ _ _ hDne).trans c1)))), c2, c3⟩) (okEs_str s.dirs) (by rw [List.length_map]) (fun e => hDne e.symm) ?_
  refine Am.AWP.genT (fun st => st.h b = some ⟨0, (encSg s).map .p⟩ ∧ st.t 2 = .one (.ptr b 0 0) ∧ st.t 3 = IntV 0 ∧ (∀ id, id < b → id ≠ B → id ≠ N → id ≠ D → st.h id = h id) ∧ ∀ id, id < b → (id = B ∨ id = N ∨ id = D) → st.h id = none) ⟨upd_same _ _ _, by exact Er, by exact Er, fun id hid n1 n2 n3 => ?_, fun id hid hor => ?_⟩ ?_
  · have q : ¬ id = b := Nat.ne_of_lt hid
    exact (upd_ne _ _ _ _ q).trans ((delH_ne _ _ _ n3).trans ((upd_ne _ _ _ _ q).trans ((delH_ne _ _ _ n2).trans ((upd_ne _ _ _ _ q).trans ((delH_ne _ _ _ n1).trans (upd_ne _ _ _ _ q))))))
  · have q : ¬ id = b := Nat.ne_of_lt hid
    have dn : ∀ (hh : Heap) (x y : Nat), hh x = none → delH hh y x = none := fun hh x y e => by
      by_cases q : x = y
      · subst q; exact delH_same _ _
      · exact (delH_ne _ _ _ q).trans e
    rcases hor with rfl | rfl | rfl
    · exact (upd_ne _ _ _ _ q).trans (dn _ _ _ ((upd_ne _ _ _ _ q).trans (dn _ _ _ ((upd_ne _ _ _ _ q).trans (delH_same _ _)))))
    · exact (upd_ne _ _ _ _ q).trans (dn _ _ _ ((upd_ne _ _ _ _ q).trans (delH_same _ _)))
    · exact (upd_ne _ _ _ _ q).trans (delH_same _ _)
  rintro ⟨t, hh, n⟩ ⟨hM, e2, e3, ho, hz⟩
  simp only at hM e2 e3 ho hz
  refine AWP.ret ?_
  refine Ends.low (r0 := .tup [SgV s, IntV 0]) (by rw [show Tryz.f60.results.toList = [.cell 2 63, .tmp 3] from rfl]; exact Erf (jn3 @e2 @e3 @hM)) (frz_tup2 (frz_psS _) (.v _)) (fun id hid blk eb c hc => ?_) ⟨rfl, fun id hid n1 n2 n3 => by unfold lowH; rw [if_pos hid]; exact ho id hid n1 n2 n3⟩
  by_cases q : id = B ∨ id = N ∨ id = D
  · have eb' : hh id = some blk := eb
    rw [hz id hid q] at eb'; cases eb'
  · have eb' : hh id = some blk := eb
    rw [ho id hid (fun e => q (.inl e)) (fun e => q (.inr (.inl e))) (fun e => q (.inr (.inr e)))] at eb'
    exact hlow id blk eb' c hc
end Go.Proofs.YtihgnpboabpchaaGreatDoor
namespace Go.Proofs.YtihgnpboabpchaaGreatDoor
set_option linter.unusedSimpArgs false
set_option linter.unusedVariables false
set_option linter.unnecessarySimpa false
open Go Am
set_option maxRecDepth 100000
theorem frz_ed0 {h : Heap} {b : Nat} (p : S) (g : Bool) (r : Nat) (f : S) : frzV h b (.agg [.p (.v (.string (mkS p))), .p (.v (.bool g)), .p (.v (.float .f64 r)), .p (.v (.string (mkS f))), .p (.v (.slice none 0 0))]) (EdV ⟨p, g, r, f, []⟩) := by
  refine .agg rfl (fun i c d hc hd => ?_)
  match i with
  | 0 | 1 | 2 | 3 => simp at hc hd; subst hc; subst hd; exact frz_p _
  | 4 => simp at hc hd; subst hc; subst hd; exact frz_nil 1
  | i + 5 => simp at hc
def whatT (t : List Fl) (p : S) : Ed := match fileT t p with
  | some f => ⟨p, false, f.rank, p, []⟩
  | none => goneE p
theorem swhat_ok (s : Sg) (e : Int) (p : S) (ht : s.t.length ≤ 1000000) (hr : Ris nmE s.ed) (hl : s.ed.length ≤ 1000000) (hdl : ∀ x ∈ s.ed, x.data.length ≤ 1000000) (hc : ∀ x ∈ s.ed, chkN x.name = 0) (hp : okG p) (h : Heap) (b W B N D : Nat) (hW : W < b) (hBb : B < b) (hw : SW h W B N D s e) :
    ACalls Tryz.prog 59 [.one (.ptr W 0 0), StrV p] h b 0 (fun r h' => r = EdV (whatS s p) ∧ h' = h) := by
  refine ACalls.enter Tryz.func59 rfl (by simp [Tryz.ntmps59]) (fun ι w hn H => ?_)
  have hWb : ¬ W = b := by omega
  have hBb1 : ¬ B = b := by omega
  have hWb1 : ¬ W = b + 1 := by omega
  obtain ⟨ev, ec, nv, nc, dv, dc, w1, w2, w3, w4⟩ := hw.w
  have fin : ∀ (tt : Nat → AV) (hh : Heap) (n : Nat) (r0 : AV), (∀ id, id < b → hh id = h id) → tt 4 = .one (.ptr b 0 0) → hh b = some ⟨0, match r0 with | .agg cs => cs | _ => []⟩ → (∃ cs, r0 = .agg cs ∧ cs.length = 5) → frzV hh b r0 (EdV (whatS s p)) → Am.Ends Tryz.prog ⟨Tryz.f59.ntmps, b, ι, h, w, x0⟩ Tryz.f59 0 (fun r h' => r = EdV (whatS s p) ∧ h' = h) ⟨tt, hh, n⟩ := by
    rintro tt hh n _ ho e4 hb ⟨cs, rfl, hlen⟩ hf
    match cs, hlen with
    | [a0, a1, a2, a3, a4], _ =>
      simp only at hb
      exact Ends.pure hn H ho (r0 := .agg [a0, a1, a2, a3, a4]) (by rw [show Tryz.f59.results.toList = [.cell 4 67] from rfl]; exact Erf (jn2 @e4 @hb)) hf ⟨rfl, rfl⟩
  refine Rk ?_
  refine AWP.seq ?_
  refine Rgf (jn2 @w1 @hWb) (fun E K hE hK => ?_)
  refine Us (eFindO_ok s.ed p hr hl hc hp (w2.ne hBb1) _) body_111 ?_
  refine hK _ _ _ ?_; clear hE hK K E
  cases hg : getK nmE p s.ed with
  | some x =>
    obtain ⟨hk, hk2⟩ := atK hr hg
    obtain ⟨T, t1, t2, t3⟩ := w2
    have hxm := (getK_mem hg).1
    have hlm : (s.ed.map encEd).length = s.ed.length := List.length_map _
    have hcl2 : ((s.ed.map encEd).flatten.map Cell.p ++ T).length = s.ed.length * 5 + T.length := by rw [List.length_append, List.length_map, okEs_len (okEs_ed s.ed), hlm]
    have hpart := row_part T (okEs_ed s.ed) (i := posK nmE p s.ed) (e := encEd x) (by rw [List.getElem?_map, List.getElem?_eq_getElem hk, hk2]; rfl)
    have t1' : h B = some ⟨ev, (s.ed.map encEd).flatten.map Cell.p ++ T⟩ := t1
    generalize hL : (s.ed.map encEd).flatten.map Cell.p ++ T = L at t1' hpart hcl2
    have hle : posK nmE p s.ed * 5 + 5 ≤ L.length := by omega
    have hki : ((posK nmE p s.ed : Nat) : Int) < s.ed.length := by omega
    generalize posK nmE p s.ed = k at hk hk2 hpart hle hki
    refine Rkf @hg ?_
    refine Bt ?_
    refine Rgf (jn7 @w1 @hWb @hWb1 @t1' @hBb1 @hki @hpart) (fun E K hE hK => ?_)
    repeat (refine ⟨by omega, ?_⟩)
    refine hK _ _ _ ?_; clear hE hK K E
    refine Rg (fun E K hE hK => ?_)
    refine CallR.use ((clone_oc_ok (x.data.map encO) (okEs_oct x.data) _ _ (by rw [List.length_map]; have := hdl x hxm; omega)).rowFrz (okEs_oct x.data)) body_83 ?_
    rintro _ _ ⟨rfl, rfl⟩
    refine Ev ?_
    refine hK _ _ _ ?_; clear hE hK K E
    refine Rk ?_
    refine AWP.ret ?_
    refine Ev ?_
    refine fin _ _ _ (EdV x) Ou (by exact Er) (by exact Er) ⟨_, rfl, rfl⟩ ?_
    rw [show whatS s p = x by unfold whatS; rw [hg]]
    exact frz_psS _
  | none =>
    have hws : whatS s p = whatT s.t p := by unfold whatS; rw [hg]; rfl
    refine Rkf @hg ?_
    refine Bs ?_
    have cg : ∀ h b, ACalls Tryz.prog 112 [FlsV s.t, StrV p] h b 0 (fun r h' => r = .tup [.agg [.p (.v (.string (mkS (getR s.t p).1.name))), .p (.v (.float .f64 (getR s.t p).1.rank)), .p (.v (.int .u32 (getR s.t p).1.sum)), .p (.v (.int .i64 (getR s.t p).1.blk)), .p (.v (.int .i64 (getR s.t p).1.frm)), .p (.v (.int .i64 (getR s.t p).1.len))], IntV (getR s.t p).2] ∧ h' = h) := Get_ok s.t p ht
    refine Rgf (jn2 @w1 @hWb) (fun E K hE hK => ?_)
    refine Us (cg _ _) body_112 ?_
    refine hK _ _ _ ?_; clear hE hK K E
    refine AWP.seq ?_
    cases hf : fileT s.t p with
    | none =>
      have e0 : ((getR s.t p).2 = 0) = False := eq_false (fileT_none.1 hf)
      refine Rkf @e0 ?_
      refine Bt ?_
      refine Rk ?_
      refine AWP.ret ?_
      refine Ev ?_
      refine fin _ _ _ (.agg [.p (.v (.string (mkS p))), .p (.v (.bool true)), .p (.v (.float .f64 0)), .p (.v (.string (mkS []))), .p (.v (.slice none 0 0))]) Ou (by exact Er) (by exact Er) ⟨_, rfl, rfl⟩ ?_
      rw [hws, show whatT s.t p = goneE p by unfold whatT; rw [hf]]
      exact frz_ed0 _ _ _ _
    | some f =>
      have e0 : ((getR s.t p).2 = 0) = True := eq_true (by rw [fileT_some hf])
      have e1 : (getR s.t p).1 = f := by rw [fileT_some hf]
      rw [e1]
      refine Rkf @e0 ?_
      refine Bs ?_
      refine Rk ?_
      refine AWP.ret ?_
      refine Ev ?_
      refine fin _ _ _ (.agg [.p (.v (.string (mkS p))), .p (.v (.bool false)), .p (.v (.float .f64 f.rank)), .p (.v (.string (mkS p))), .p (.v (.slice none 0 0))]) Ou (by exact Er) (by exact Er) ⟨_, rfl, rfl⟩ ?_
      rw [hws, show whatT s.t p = ⟨p, false, f.rank, p, []⟩ by unfold whatT; rw [hf]]
      exact frz_ed0 _ _ _ _
end Go.Proofs.YtihgnpboabpchaaGreatDoor
