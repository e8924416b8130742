/-
  The reference's One, of one file with itself; Ranks as keys; Same of two tables (package table, and the reference); Same of two tables (package table, and the reference); The two keys of a rank are one.
-/
import Derived.Test.YtengjcdilnikhaaDoorTbW5
namespace Go.Proofs.YtengjcdilnikhaaDoor
set_option linter.unusedSimpArgs false
set_option linter.unusedVariables false
set_option linter.unnecessarySimpa false
open Go Am
set_option maxRecDepth 100000

theorem rnone_ok (x : Nat) (h : Heap) (b : Nat) : ACalls Tryd.prog 133 [F64V x] h b 0 (fun r h' => r = BoolV (FloatKind.f64.format.order x x != some .eq) ∧ h' = h) := by
  refine ACalls.enter Tryd.func133 rfl (by simp [Tryd.ntmps133]) (fun ι w hn H => ?_)
  refine Rk ?_
  refine Rk ?_
  refine AWP.ret ?_
  exact Ends.pure hn H (fun _ _ => rfl) (r0 := BoolV (FloatKind.f64.format.order x x != some .eq)) (by rw [show Tryd.f133.results.toList = [.tmp 2] from rfl]; exact Er) (.v _) ⟨rfl, rfl⟩

end Go.Proofs.YtengjcdilnikhaaDoor

namespace Go.Proofs.YtengjcdilnikhaaDoor
set_option linter.unusedSimpArgs false
set_option linter.unusedVariables false
set_option linter.unnecessarySimpa false
open Go Am
set_option maxRecDepth 100000

/-- a rank's key -/
def keyR (x : Nat) : Int :=
  if (FloatKind.f64.format.order x x != some .eq) = true then 18446744073709551615
  else if IntKind.i64.wrap (x : Int) < 0 then IntKind.u64.wrap ((BitVec.ofInt IntKind.u64.bits (if IntKind.u64.signed then -1 else IntKind.u64.max) ^^^ BitVec.ofInt IntKind.u64.bits (x : Int)).toNat)
  else IntKind.u64.wrap ((BitVec.ofInt IntKind.u64.bits (x : Int) ||| BitVec.ofInt IntKind.u64.bits 9223372036854775808).toNat)
def keyD (x : Nat) : Int :=
  if (FloatKind.f64.format.order x x != some .eq) = true then 18446744073709551615
  else if (x : Int) < 9223372036854775808 then IntKind.u64.wrap ((x : Int) + 9223372036854775808)
  else IntKind.u64.wrap (18446744073709551615 - (x : Int))

theorem rKeyR_ok (x : Nat) (h : Heap) (b : Nat) : ACalls Tryd.prog 94 [F64V x] h b 0 (fun r h' => r = .one (.p (.v (.int .u64 (keyR x)))) ∧ h' = h) := by
  cases c1 : FloatKind.f64.format.order x x != some .eq
  · by_cases c2 : IntKind.i64.wrap (x : Int) < 0
    · rw [show keyR x = IntKind.u64.wrap ((BitVec.ofInt IntKind.u64.bits (if IntKind.u64.signed then -1 else IntKind.u64.max) ^^^ BitVec.ofInt IntKind.u64.bits (x : Int)).toNat) by unfold keyR; rw [if_neg (by rw [c1]; decide), if_pos c2]]
      refine ACalls.enter Tryd.func94 rfl (by simp [Tryd.ntmps94]) (fun ι w hn H => ?_)
      refine Rk ?_
      refine Rg (fun E K hE hK => ?_)
      refine CallR.ext (bits_ext ?_)
      refine Ev ?_
      refine hK _ _ _ ?_; clear hE hK K E
      refine AWP.seq ?_
      refine AWP.block ?_
      refine Rg (fun E K hE hK => ?_)
      refine Us (isNaN64_ok x _ _) body_120 ?_
      refine Evf @c1 ?_
      refine hK _ _ _ ?_; clear hE hK K E
      refine Bf ?_
      refine Rg (fun E K hE hK => ?_)
      refine Us (signbit_ok x _ _) body_121 ?_
      refine Evf @c2 ?_
      refine hK _ _ _ ?_; clear hE hK K E
      refine Bt ?_
      refine Rk ?_
      refine AWP.ret ?_
      refine Ev ?_
      exact Ends.pure hn H (fun _ _ => rfl) (r0 := .one (.p (.v (.int .u64 (IntKind.u64.wrap ((BitVec.ofInt IntKind.u64.bits (if IntKind.u64.signed then -1 else IntKind.u64.max) ^^^ BitVec.ofInt IntKind.u64.bits (x : Int)).toNat)))))) (by rw [show Tryd.f94.results.toList = [.tmp 2] from rfl]; exact Er) (.v _) ⟨rfl, rfl⟩
    · rw [show keyR x = IntKind.u64.wrap ((BitVec.ofInt IntKind.u64.bits (x : Int) ||| BitVec.ofInt IntKind.u64.bits 9223372036854775808).toNat) by unfold keyR; rw [if_neg (by rw [c1]; decide), if_neg c2]]
      refine ACalls.enter Tryd.func94 rfl (by simp [Tryd.ntmps94]) (fun ι w hn H => ?_)
      refine Rk ?_
      refine Rg (fun E K hE hK => ?_)
      refine CallR.ext (bits_ext ?_)
      refine Ev ?_
      refine hK _ _ _ ?_; clear hE hK K E
      refine AWP.seq ?_
      refine AWP.block ?_
      refine Rg (fun E K hE hK => ?_)
      refine Us (isNaN64_ok x _ _) body_120 ?_
      refine Evf @c1 ?_
      refine hK _ _ _ ?_; clear hE hK K E
      refine Bf ?_
      refine Rg (fun E K hE hK => ?_)
      refine Us (signbit_ok x _ _) body_121 ?_
      refine Evf @c2 ?_
      refine hK _ _ _ ?_; clear hE hK K E
      refine Bf ?_
      refine AWP.skip ?_
      refine Ev ?_
      refine Rk ?_
      refine AWP.ret ?_
      exact Ends.pure hn H (fun _ _ => rfl) (r0 := .one (.p (.v (.int .u64 (IntKind.u64.wrap ((BitVec.ofInt IntKind.u64.bits (x : Int) ||| BitVec.ofInt IntKind.u64.bits 9223372036854775808).toNat)))))) (by rw [show Tryd.f94.results.toList = [.tmp 2] from rfl]; exact Er) (.v _) ⟨rfl, rfl⟩
  · rw [show keyR x = 18446744073709551615 by unfold keyR; rw [if_pos c1]]
    refine ACalls.enter Tryd.func94 rfl (by simp [Tryd.ntmps94]) (fun ι w hn H => ?_)
    refine Rk ?_
    refine Rg (fun E K hE hK => ?_)
    refine CallR.ext (bits_ext ?_)
    refine Ev ?_
    refine hK _ _ _ ?_; clear hE hK K E
    refine AWP.seq ?_
    refine AWP.block ?_
    refine Rg (fun E K hE hK => ?_)
    refine Us (isNaN64_ok x _ _) body_120 ?_
    refine Evf @c1 ?_
    refine hK _ _ _ ?_; clear hE hK K E
    refine Bt ?_
    refine Rk ?_
    refine AWP.ret ?_
    refine Ev ?_
    exact Ends.pure hn H (fun _ _ => rfl) (r0 := .one (.p (.v (.int .u64 18446744073709551615)))) (by rw [show Tryd.f94.results.toList = [.tmp 2] from rfl]; exact Er) (.v _) ⟨rfl, rfl⟩

theorem rKeyD_ok (x : Nat) (h : Heap) (b : Nat) : ACalls Tryd.prog 114 [F64V x] h b 0 (fun r h' => r = .one (.p (.v (.int .u64 (keyD x)))) ∧ h' = h) := by
  cases c1 : FloatKind.f64.format.order x x != some .eq
  · by_cases c2 : (x : Int) < 9223372036854775808
    · rw [show keyD x = IntKind.u64.wrap ((x : Int) + 9223372036854775808) by unfold keyD; rw [if_neg (by rw [c1]; decide), if_pos c2]]
      refine ACalls.enter Tryd.func114 rfl (by simp [Tryd.ntmps114]) (fun ι w hn H => ?_)
      refine Rk ?_
      refine AWP.seq ?_
      refine Rg (fun E K hE hK => ?_)
      refine Us (rnone_ok x _ _) body_133 ?_
      refine Evf @c1 ?_
      refine hK _ _ _ ?_; clear hE hK K E
      refine Bs ?_
      refine Rg (fun E K hE hK => ?_)
      refine CallR.ext (bits_ext ?_)
      refine Ev ?_
      refine hK _ _ _ ?_; clear hE hK K E
      refine AWP.seq ?_
      refine Rkf @c2 ?_
      refine Bt ?_
      refine Rk ?_
      refine AWP.ret ?_
      refine Ev ?_
      exact Ends.pure hn H (fun _ _ => rfl) (r0 := .one (.p (.v (.int .u64 (IntKind.u64.wrap ((x : Int) + 9223372036854775808)))))) (by rw [show Tryd.f114.results.toList = [.tmp 2] from rfl]; exact Er) (.v _) ⟨rfl, rfl⟩
    · rw [show keyD x = IntKind.u64.wrap (18446744073709551615 - (x : Int)) by unfold keyD; rw [if_neg (by rw [c1]; decide), if_neg c2]]
      refine ACalls.enter Tryd.func114 rfl (by simp [Tryd.ntmps114]) (fun ι w hn H => ?_)
      refine Rk ?_
      refine AWP.seq ?_
      refine Rg (fun E K hE hK => ?_)
      refine Us (rnone_ok x _ _) body_133 ?_
      refine Evf @c1 ?_
      refine hK _ _ _ ?_; clear hE hK K E
      refine Bs ?_
      refine Rg (fun E K hE hK => ?_)
      refine CallR.ext (bits_ext ?_)
      refine Ev ?_
      refine hK _ _ _ ?_; clear hE hK K E
      refine AWP.seq ?_
      refine Rkf @c2 ?_
      refine Bs ?_
      refine Rk ?_
      refine AWP.ret ?_
      exact Ends.pure hn H (fun _ _ => rfl) (r0 := .one (.p (.v (.int .u64 (IntKind.u64.wrap (18446744073709551615 - (x : Int))))))) (by rw [show Tryd.f114.results.toList = [.tmp 2] from rfl]; exact Er) (.v _) ⟨rfl, rfl⟩
  · rw [show keyD x = 18446744073709551615 by unfold keyD; rw [if_pos c1]]
    refine ACalls.enter Tryd.func114 rfl (by simp [Tryd.ntmps114]) (fun ι w hn H => ?_)
    refine Rk ?_
    refine AWP.seq ?_
    refine Rg (fun E K hE hK => ?_)
    refine Us (rnone_ok x _ _) body_133 ?_
    refine Evf @c1 ?_
    refine hK _ _ _ ?_; clear hE hK K E
    refine Bt ?_
    refine Rk ?_
    refine AWP.ret ?_
    refine Ev ?_
    exact Ends.pure hn H (fun _ _ => rfl) (r0 := .one (.p (.v (.int .u64 18446744073709551615)))) (by rw [show Tryd.f114.results.toList = [.tmp 2] from rfl]; exact Er) (.v _) ⟨rfl, rfl⟩

theorem rankSame_ok (x y : Nat) (h : Heap) (b : Nat) : ACalls Tryd.prog 112 [F64V x, F64V y] h b 0 (fun r h' => r = BoolV (decide (keyR x = keyR y)) ∧ h' = h) := by
  refine ACalls.enter Tryd.func112 rfl (by simp [Tryd.ntmps112]) (fun ι w hn H => ?_)
  refine Rk ?_
  refine Rg (fun E K hE hK => ?_)
  refine Us (rKeyR_ok x _ _) body_94 ?_
  refine Us (rKeyR_ok y _ _) body_94 ?_
  refine hK _ _ _ ?_; clear hE hK K E
  refine AWP.ret ?_
  exact Ends.pure hn H (fun _ _ => rfl) (r0 := BoolV (decide (keyR x = keyR y))) (by rw [show Tryd.f112.results.toList = [.tmp 4] from rfl]; exact Er) (.v _) ⟨rfl, rfl⟩

theorem rankSameD_ok (x y : Nat) (h : Heap) (b : Nat) : ACalls Tryd.prog 84 [F64V x, F64V y] h b 0 (fun r h' => r = BoolV (decide (keyD x = keyD y)) ∧ h' = h) := by
  refine ACalls.enter Tryd.func84 rfl (by simp [Tryd.ntmps84]) (fun ι w hn H => ?_)
  refine Rk ?_
  refine Rg (fun E K hE hK => ?_)
  refine Us (rKeyD_ok x _ _) body_114 ?_
  refine Us (rKeyD_ok y _ _) body_114 ?_
  refine hK _ _ _ ?_; clear hE hK K E
  refine AWP.ret ?_
  exact Ends.pure hn H (fun _ _ => rfl) (r0 := BoolV (decide (keyD x = keyD y))) (by rw [show Tryd.f84.results.toList = [.tmp 4] from rfl]; exact Er) (.v _) ⟨rfl, rfl⟩


def sameX (k : Nat → Int) (f g : Fl) : Bool := decide (f.name = g.name) && (decide (k f.rank = k g.rank) && (decide (f.sum = g.sum) && (decide (f.blk = g.blk) && (decide (f.frm = g.frm) && decide (f.len = g.len)))))
def sameL (k : Nat → Int) : List Fl → List Fl → Bool
  | [], [] => true
  | f :: l, g :: m => sameX k f g && sameL k l m
  | _, _ => false

theorem oneG_ok (f g : Fl) (h : Heap) (b : Nat) : ACalls Tryd.prog 80 [FlV f, FlV g] h b 0 (fun r h' => r = BoolV (sameX keyR f g) ∧ h' = h) := by
  refine ACalls.enter Tryd.func80 rfl (by simp [Tryd.ntmps80]) (fun ι w hn H => ?_)
  have fin : ∀ (t : Nat → AV) (hh : Heap) (n : Nat) (v : Bool), t 4 = BoolV v → (∀ id, id < b → hh id = h id) → v = sameX keyR f g → Am.Ends Tryd.prog ⟨Tryd.f80.ntmps, b, ι, h, w, x0⟩ Tryd.f80 0 (fun r h' => r = BoolV (sameX keyR f g) ∧ h' = h) ⟨t, hh, n⟩ := by
    intro t hh n v ht ho hv
    exact Ends.pure hn H ho (r0 := BoolV v) (by rw [show Tryd.f80.results.toList = [.tmp 4] from rfl]; exact Ecf @ht) (.v _) ⟨by rw [hv], rfl⟩
  refine Rk ?_
  refine AWP.seqRegD [] [] [] mixed (by kernel_rfl) (by kernel_rfl) (fun K hK => .inl ?_) (by kernel_rfl); simp -implicitDefEqProofs only [go_sem, ↓reduceIte, Nat.reduceEqDiff, Nat.reduceAdd, Nat.reduceLT, Nat.reduceLeDiff, reduceCtorEq, Int.toNat_natCast]
  refine hK _ _ _ ?_; clear hK K
  refine Rk ?_
  by_cases c0 : f.name = g.name
  case neg =>
    have d0 : (f.name = g.name) = False := eq_false c0
    refine Rkf (jn5 @h00 @mkS_list @d0 @Bool.false_and @Bool.and_false) ?_
    refine AWP.ret ?_
    exact fin _ _ _ false (by exact Er) Ou (by unfold sameX; simp [c0])
  have d0 : (f.name = g.name) = True := eq_true c0
  by_cases c1 : f.sum = g.sum
  case neg =>
    have d1 : (f.sum = g.sum) = False := eq_false c1
    refine Rkf (jn6 @h00 @mkS_list @d0 @d1 @Bool.false_and @Bool.and_false) ?_
    refine AWP.ret ?_
    exact fin _ _ _ false (by exact Er) Ou (by unfold sameX; simp [c1])
  have d1 : (f.sum = g.sum) = True := eq_true c1
  by_cases c2 : f.blk = g.blk
  case neg =>
    have d2 : (f.blk = g.blk) = False := eq_false c2
    refine Rkf (jn7 @h00 @mkS_list @d0 @d1 @d2 @Bool.false_and @Bool.and_false) ?_
    refine AWP.ret ?_
    exact fin _ _ _ false (by exact Er) Ou (by unfold sameX; simp [c2])
  have d2 : (f.blk = g.blk) = True := eq_true c2
  by_cases c3 : f.frm = g.frm
  case neg =>
    have d3 : (f.frm = g.frm) = False := eq_false c3
    refine Rkf (jn2 @h00 (jn7 @mkS_list @d0 @d1 @d2 @d3 @Bool.false_and @Bool.and_false)) ?_
    refine AWP.ret ?_
    exact fin _ _ _ false (by exact Er) Ou (by unfold sameX; simp [c3])
  have d3 : (f.frm = g.frm) = True := eq_true c3
  by_cases c4 : f.len = g.len
  case neg =>
    have d4 : (f.len = g.len) = False := eq_false c4
    refine Rkf (jn3 @h00 @mkS_list (jn7 @d0 @d1 @d2 @d3 @d4 @Bool.false_and @Bool.and_false)) ?_
    refine AWP.ret ?_
    exact fin _ _ _ false (by exact Er) Ou (by unfold sameX; simp [c4])
  have d4 : (f.len = g.len) = True := eq_true c4
  refine Rgf (jn7 @h00 @mkS_list @d0 @d1 @d2 @d3 @d4) (fun E K hE hK => ?_)
  refine Us (rankSame_ok f.rank g.rank _ _) body_112 ?_
  refine hK _ _ _ ?_; clear hE hK K E
  refine AWP.ret ?_
  exact fin _ _ _ (decide (keyR f.rank = keyR g.rank)) (by exact Er) Ou (by unfold sameX; simp [c0, c1, c2, c3, c4])

theorem oneGD_ok (f g : Fl) (h : Heap) (b : Nat) : ACalls Tryd.prog 45 [FlV f, FlV g] h b 0 (fun r h' => r = BoolV (sameX keyD f g) ∧ h' = h) := by
  refine ACalls.enter Tryd.func45 rfl (by simp [Tryd.ntmps45]) (fun ι w hn H => ?_)
  have fin : ∀ (t : Nat → AV) (hh : Heap) (n : Nat) (v : Bool), t 4 = BoolV v → (∀ id, id < b → hh id = h id) → v = sameX keyD f g → Am.Ends Tryd.prog ⟨Tryd.f45.ntmps, b, ι, h, w, x0⟩ Tryd.f45 0 (fun r h' => r = BoolV (sameX keyD f g) ∧ h' = h) ⟨t, hh, n⟩ := by
    intro t hh n v ht ho hv
    exact Ends.pure hn H ho (r0 := BoolV v) (by rw [show Tryd.f45.results.toList = [.tmp 4] from rfl]; exact Ecf @ht) (.v _) ⟨by rw [hv], rfl⟩
  refine Rk ?_
  by_cases c0 : f.name = g.name
  case neg =>
    have d0 : (f.name = g.name) = False := eq_false c0
    refine Rkf (jn2 @mkS_list @d0) ?_
    refine AWP.ret ?_
    exact fin _ _ _ false (by exact Er) Ou (by unfold sameX; simp [c0])
  have d0 : (f.name = g.name) = True := eq_true c0
  by_cases c9 : keyD f.rank = keyD g.rank
  case neg =>
    have d9 : decide (keyD f.rank = keyD g.rank) = false := decide_eq_false c9
    refine Rgf (jn2 @mkS_list @d0) (fun E K hE hK => ?_)
    refine Us (rankSameD_ok f.rank g.rank _ _) body_84 ?_
    refine Evf @d9 ?_
    refine hK _ _ _ ?_; clear hE hK K E
    refine AWP.ret ?_
    exact fin _ _ _ false (by exact Er) Ou (by unfold sameX; simp [c9])
  have d9 : decide (keyD f.rank = keyD g.rank) = true := decide_eq_true c9
  by_cases c1 : f.sum = g.sum
  case neg =>
    have d1 : (f.sum = g.sum) = False := eq_false c1
    refine Rgf (jn2 @mkS_list @d0) (fun E K hE hK => ?_)
    refine Us (rankSameD_ok f.rank g.rank _ _) body_84 ?_
    refine Evf (jn2 @d9 @d1) ?_
    refine hK _ _ _ ?_; clear hE hK K E
    refine AWP.ret ?_
    exact fin _ _ _ false (by exact Er) Ou (by unfold sameX; simp [c1])
  have d1 : (f.sum = g.sum) = True := eq_true c1
  by_cases c2 : f.blk = g.blk
  case neg =>
    have d2 : (f.blk = g.blk) = False := eq_false c2
    refine Rgf (jn2 @mkS_list @d0) (fun E K hE hK => ?_)
    refine Us (rankSameD_ok f.rank g.rank _ _) body_84 ?_
    refine Evf (jn3 @d9 @d1 @d2) ?_
    refine hK _ _ _ ?_; clear hE hK K E
    refine AWP.ret ?_
    exact fin _ _ _ false (by exact Er) Ou (by unfold sameX; simp [c2])
  have d2 : (f.blk = g.blk) = True := eq_true c2
  by_cases c3 : f.frm = g.frm
  case neg =>
    have d3 : (f.frm = g.frm) = False := eq_false c3
    refine Rgf (jn2 @mkS_list @d0) (fun E K hE hK => ?_)
    refine Us (rankSameD_ok f.rank g.rank _ _) body_84 ?_
    refine Evf (jn4 @d9 @d1 @d2 @d3) ?_
    refine hK _ _ _ ?_; clear hE hK K E
    refine AWP.ret ?_
    exact fin _ _ _ false (by exact Er) Ou (by unfold sameX; simp [c3])
  have d3 : (f.frm = g.frm) = True := eq_true c3
  by_cases c4 : f.len = g.len
  case neg =>
    have d4 : (f.len = g.len) = False := eq_false c4
    refine Rgf (jn2 @mkS_list @d0) (fun E K hE hK => ?_)
    refine Us (rankSameD_ok f.rank g.rank _ _) body_84 ?_
    refine Evf (jn5 @d9 @d1 @d2 @d3 @d4) ?_
    refine hK _ _ _ ?_; clear hE hK K E
    refine AWP.ret ?_
    exact fin _ _ _ false (by exact Er) Ou (by unfold sameX; simp [c4])
  have d4 : (f.len = g.len) = True := eq_true c4
  refine Rgf (jn2 @mkS_list @d0) (fun E K hE hK => ?_)
  refine Us (rankSameD_ok f.rank g.rank _ _) body_84 ?_
  refine Evf (jn5 @d9 @d1 @d2 @d3 @d4) ?_
  refine hK _ _ _ ?_; clear hE hK K E
  refine AWP.ret ?_
  exact fin _ _ _ true (by exact Er) Ou (by unfold sameX; simp [c0, c9, c1, c2, c3, c4])

end Go.Proofs.YtengjcdilnikhaaDoor

namespace Go.Proofs.YtengjcdilnikhaaDoor
set_option linter.unusedSimpArgs false
set_option linter.unusedVariables false
set_option linter.unnecessarySimpa false
open Go Am
set_option maxRecDepth 100000

theorem sameL_len {k : Nat → Int} : ∀ {l m : List Fl}, l.length ≠ m.length → sameL k l m = false
  | [], [], h => absurd rfl h
  | [], _ :: _, _ => rfl
  | _ :: _, [], _ => rfl
  | f :: l, g :: m, h => by
    show (sameX k f g && sameL k l m) = false
    rw [sameL_len (l := l) (m := m) (by simpa using h), Bool.and_false]
theorem sameX_refl (k : Nat → Int) (f : Fl) : sameX k f f = true := by simp [sameX]
theorem sameL_refl (k : Nat → Int) : ∀ l : List Fl, sameL k l l = true
  | [] => rfl
  | f :: l => by
    show (sameX k f f && sameL k l l) = true
    rw [sameX_refl, sameL_refl k l]; rfl

def eqgI (l m : List Fl) (h : Heap) (b i : Nat) (st : St) : Prop :=
  (∀ id, id < b → st.h id = h id) ∧ st.t 1 = FlsV m ∧ st.t 2 = .one (.clo (.func 80) [] []) ∧ st.t 15 = FlsV l ∧ st.t 16 = IntV l.length ∧ st.t 17 = IntV (i : Nat) ∧ sameL keyR l m = sameL keyR (l.drop i) (m.drop i)

theorem eqg_ok (l m : List Fl) (hl : l.length ≤ 1000000) (h : Heap) (b : Nat) :
    ACalls Tryd.prog 79 [FlsV l, FlsV m, .one (.clo (.func 80) [] [])] h b 0 (fun r h' => r = BoolV (sameL keyR l m) ∧ h' = h) := by
  refine ACalls.enter Tryd.func79 rfl (by simp [Tryd.ntmps79]) (fun ι w hn H => ?_)
  have hlow := H.lowCells
  have hlm : (l.map encF).length = l.length := List.length_map _
  have hmm : (m.map encF).length = m.length := List.length_map _
  have fin : ∀ (t : Nat → AV) (hh : Heap) (n : Nat) (v : Bool), t 6 = BoolV v → (∀ id, id < b → hh id = h id) → v = sameL keyR l m → Am.Ends Tryd.prog ⟨Tryd.f79.ntmps, b, ι, h, w, x0⟩ Tryd.f79 0 (fun r h' => r = BoolV (sameL keyR l m) ∧ h' = h) ⟨t, hh, n⟩ := by
    intro t hh n v ht ho hv
    exact Ends.pure hn H ho (r0 := BoolV v) (by rw [show Tryd.f79.results.toList = [.tmp 6] from rfl]; exact Ecf @ht) (.v _) ⟨by rw [hv], rfl⟩
  refine Rk ?_
  refine AWP.seq ?_
  by_cases hlen : (l.length : Int) = m.length
  case neg =>
    refine Rkf (jn3 @hlm @hmm @hlen) ?_
    refine Bt ?_
    refine Rk ?_
    refine AWP.ret ?_
    refine Ev ?_
    exact fin _ _ _ false (by exact Er) (fun _ _ => rfl) (sameL_len (by omega)).symm
  refine Rkf (jn3 @hlm @hmm @hlen) ?_
  refine Bs ?_
  refine AWP.seq ?_
  refine Rkf @hlm ?_
  refine AWP.block ?_
  refine AWP.loopM 0 (fun k st => ∃ i, i ≤ l.length ∧ k = l.length - i ∧ eqgI l m h b i st) l.length rfl ⟨0, Nat.zero_le _, rfl, Ou, by exact Er, by exact Er, by exact Er, by exact Er, by exact Er, rfl⟩ ?_
  rintro k ⟨t, hh, n⟩ ⟨i, hi, rfl, ho, e1, e2, e15, e16, e17, hx⟩ hn1
  simp only at ho e1 e2 e15 e16 e17 hn1
  subst hn1
  refine Rkf (jn2 @e16 @e17) ?_
  refine AWP.seq ?_
  by_cases hlt : (i : Int) < l.length
  · have hw1 : IntKind.i64.wrap ((i : Int) + 1) = ((i + 1 : Nat) : Int) := by rw [wrap_i64 (by omega) (by omega)]; rfl
    have hi2 : i < l.length := by omega
    have hi3 : i < m.length := by omega
    have hltm : (i : Int) < m.length := by omega
    have hge := encF_getD l i hi2
    have hgm := encF_getD m i hi3
    obtain ⟨f, hf⟩ : ∃ f, l[i] = f := ⟨_, rfl⟩
    obtain ⟨g, hg⟩ : ∃ g, m[i] = g := ⟨_, rfl⟩
    have hstep : sameL keyR (l.drop i) (m.drop i) = (sameX keyR f g && sameL keyR (l.drop (i + 1)) (m.drop (i + 1))) := by
      rw [List.drop_eq_getElem_cons hi2, List.drop_eq_getElem_cons hi3, hf, hg]; rfl
    rw [hf] at hge
    rw [hg] at hgm
    refine Btf @hlt ?_
    refine AWP.skip ?_
    refine Ev ?_
    refine AWP.seq ?_
    refine AWP.block ?_
    refine Rgf (jn5 @e15 @e17 @hlm @hlt @hge) (fun E K hE hK => ?_)
    refine ⟨by omega, ?_⟩
    refine hK _ _ _ ?_; clear hE hK K E
    refine Rgf (jn4 @e1 @hmm @hltm @hgm) (fun E K hE hK => ?_)
    refine ⟨by omega, ?_⟩
    refine hK _ _ _ ?_; clear hE hK K E
    cases hs : sameX keyR f g
    · refine Rgf @e2 (fun E K hE hK => ?_)
      refine Us (oneG_ok f g _ _) body_80 ?_
      refine Evf @hs ?_
      refine hK _ _ _ ?_; clear hE hK K E
      refine Bt ?_
      refine Rk ?_
      refine AWP.ret ?_
      refine Ev ?_
      exact fin _ _ _ false (by exact Er) (Ouf @ho) (by rw [hx, hstep, hs]; rfl)
    · refine Rgf @e2 (fun E K hE hK => ?_)
      refine Us (oneG_ok f g _ _) body_80 ?_
      refine Evf @hs ?_
      refine hK _ _ _ ?_; clear hE hK K E
      refine Bf ?_
      refine AWP.skip ?_
      refine Ev ?_
      refine Raf (jn2 @e17 @hw1) (fun E K hE hK => ?_); refine hK _ _ _ ?_; clear hE hK K E
      exact ⟨l.length - (i + 1), by omega, i + 1, by omega, rfl, cutH_outer (Nat.le_refl _) (Ouf @ho) hlow, by exact Ecf @e1, by exact Ecf @e2, by exact Ecf @e15, by exact Ecf @e16, by exact Er, by rw [hx, hstep, hs, Bool.true_and]⟩
  · refine Bff @hlt ?_
    refine AWP.exit ?_
    refine Ev ?_
    refine Rk ?_
    refine AWP.ret ?_
    refine fin _ _ _ true (by exact Er) ho ?_
    have h1 : i = l.length := by omega
    have h2 : i = m.length := by omega
    rw [hx, h1, List.drop_length, show l.length = m.length by omega, List.drop_length]; rfl

theorem tSameG_ok (l m : List Fl) (hl : l.length ≤ 1000000) (h : Heap) (b : Nat) : ACalls Tryd.prog 42 [FlsV l, FlsV m] h b 0 (fun r h' => r = BoolV (sameL keyR l m) ∧ h' = h) := by
  refine ACalls.enter Tryd.func42 rfl (by simp [Tryd.ntmps42]) (fun ι w hn H => ?_)
  refine Rk ?_
  refine Rg (fun E K hE hK => ?_)
  refine Us (eqg_ok l m hl _ _) body_79 ?_
  refine hK _ _ _ ?_; clear hE hK K E
  refine AWP.ret ?_
  exact Ends.pure hn H (fun _ _ => rfl) (r0 := BoolV (sameL keyR l m)) (by rw [show Tryd.f42.results.toList = [.tmp 4] from rfl]; exact Er) (.v _) ⟨rfl, rfl⟩

def rsgI (l m : List Fl) (h : Heap) (b i : Nat) (st : St) : Prop :=
  st.h = h ∧ st.t 0 = FlsV l ∧ st.t 1 = FlsV m ∧ st.t 12 = IntV l.length ∧ st.t 13 = IntV (i : Nat) ∧ sameL keyD l m = sameL keyD (l.drop i) (m.drop i)

theorem rSameG_ok (l m : List Fl) (hl : l.length ≤ 1000000) (h : Heap) (b : Nat) : ACalls Tryd.prog 50 [FlsV l, FlsV m] h b 0 (fun r h' => r = BoolV (sameL keyD l m) ∧ h' = h) := by
  refine ACalls.enter Tryd.func50 rfl (by simp [Tryd.ntmps50]) (fun ι w hn H => ?_)
  have hlm : (l.map encF).length = l.length := List.length_map _
  have hmm : (m.map encF).length = m.length := List.length_map _
  have fin : ∀ (t : Nat → AV) (n : Nat) (v : Bool), t 4 = BoolV v → v = sameL keyD l m → Am.Ends Tryd.prog ⟨Tryd.f50.ntmps, b, ι, h, w, x0⟩ Tryd.f50 0 (fun r h' => r = BoolV (sameL keyD l m) ∧ h' = h) ⟨t, h, n⟩ := by
    intro t n v ht hv
    exact Ends.pure hn H (fun _ _ => rfl) (r0 := BoolV v) (by rw [show Tryd.f50.results.toList = [.tmp 4] from rfl]; exact Ecf @ht) (.v _) ⟨by rw [hv], rfl⟩
  refine Rk ?_
  refine AWP.seq ?_
  by_cases hlen : (l.length : Int) = m.length
  case neg =>
    refine Rkf (jn3 @hlm @hmm @hlen) ?_
    refine Bt ?_
    refine Rk ?_
    refine AWP.ret ?_
    refine Ev ?_
    exact fin _ _ false (by exact Er) (sameL_len (by omega)).symm
  refine Rkf (jn3 @hlm @hmm @hlen) ?_
  refine Bs ?_
  refine AWP.seq ?_
  refine Rkf @hlm ?_
  refine AWP.block ?_
  refine AWP.loopK 0 (fun k st => ∃ i, i ≤ l.length ∧ k = l.length - i ∧ rsgI l m h b i st) l.length rfl ⟨0, Nat.zero_le _, rfl, rfl, by exact Er, by exact Er, by exact Er, by exact Er, rfl⟩ ?_
  rintro k ⟨t, hh, n⟩ ⟨i, hi, rfl, rfl, e0, e1, e12, e13, hx⟩ hn1
  simp only at e0 e1 e12 e13 hn1
  subst hn1
  refine Rkf (jn2 @e12 @e13) ?_
  refine AWP.seq ?_
  by_cases hlt : (i : Int) < l.length
  · have hw1 : IntKind.i64.wrap ((i : Int) + 1) = ((i + 1 : Nat) : Int) := by rw [wrap_i64 (by omega) (by omega)]; rfl
    have hi2 : i < l.length := by omega
    have hi3 : i < m.length := by omega
    have hltm : (i : Int) < m.length := by omega
    have hge := encF_getD l i hi2
    have hgm := encF_getD m i hi3
    obtain ⟨f, hf⟩ : ∃ f, l[i] = f := ⟨_, rfl⟩
    obtain ⟨g, hg⟩ : ∃ g, m[i] = g := ⟨_, rfl⟩
    have hstep : sameL keyD (l.drop i) (m.drop i) = (sameX keyD f g && sameL keyD (l.drop (i + 1)) (m.drop (i + 1))) := by
      rw [List.drop_eq_getElem_cons hi2, List.drop_eq_getElem_cons hi3, hf, hg]; rfl
    rw [hf] at hge
    rw [hg] at hgm
    refine Btf @hlt ?_
    refine AWP.skip ?_
    refine Ev ?_
    refine AWP.seq ?_
    refine AWP.block ?_
    refine Rkf @e13 ?_
    cases hs : sameX keyD f g
    · refine AWP.seqRegD [] [] [] mixed (by kernel_rfl) (by kernel_rfl) (fun K hK => .inl ?_) (by kernel_rfl); simp -implicitDefEqProofs only [go_sem, ↓reduceIte, Nat.reduceEqDiff, Nat.reduceAdd, Nat.reduceLT, Nat.reduceLeDiff, reduceCtorEq, Int.toNat_natCast, e0, e1, hlm, hmm, hlt, hltm, hge, hgm]
      refine ⟨by omega, by omega, ?_⟩
      refine Ud (oneGD_ok f g _ _) body_45 ?_
      refine Evf @hs ?_
      refine hK _ _ _ ?_; clear hK K
      refine Bt ?_
      refine Rk ?_
      refine AWP.ret ?_
      refine Ev ?_
      exact fin _ _ false (by exact Er) (by rw [hx, hstep, hs]; rfl)
    · refine AWP.seqRegD [] [] [] mixed (by kernel_rfl) (by kernel_rfl) (fun K hK => .inl ?_) (by kernel_rfl); simp -implicitDefEqProofs only [go_sem, ↓reduceIte, Nat.reduceEqDiff, Nat.reduceAdd, Nat.reduceLT, Nat.reduceLeDiff, reduceCtorEq, Int.toNat_natCast, e0, e1, hlm, hmm, hlt, hltm, hge, hgm]
      refine ⟨by omega, by omega, ?_⟩
      refine Ud (oneGD_ok f g _ _) body_45 ?_
      refine Evf @hs ?_
      refine hK _ _ _ ?_; clear hK K
      refine Bf ?_
      refine AWP.skip ?_
      refine Ev ?_
      refine Raf (jn2 @e13 @hw1) (fun E K hE hK => ?_); refine hK _ _ _ ?_; clear hE hK K E
      exact ⟨rfl, l.length - (i + 1), by omega, i + 1, by omega, rfl, rfl, by exact Ecf @e0, by exact Ecf @e1, by exact Ecf @e12, by exact Er, by rw [hx, hstep, hs, Bool.true_and]⟩
  · refine Bff @hlt ?_
    refine AWP.exit ?_
    refine Ev ?_
    refine Rk ?_
    refine AWP.ret ?_
    refine fin _ _ true (by exact Er) ?_
    have h1 : i = l.length := by omega
    have h2 : i = m.length := by omega
    rw [hx, h1, List.drop_length, show l.length = m.length by omega, List.drop_length]; rfl

end Go.Proofs.YtengjcdilnikhaaDoor

namespace Go.Proofs.YtengjcdilnikhaaDoor
set_option linter.unusedSimpArgs false
set_option linter.unusedVariables false
set_option linter.unnecessarySimpa false
open Go Am
set_option maxRecDepth 100000

theorem or_key (x : Nat) (hx : x < 9223372036854775808) : (BitVec.ofInt IntKind.u64.bits (x : Int) ||| BitVec.ofInt IntKind.u64.bits 9223372036854775808).toNat = x + 9223372036854775808 := by
  show (BitVec.ofInt 64 (x : Int) ||| BitVec.ofInt 64 9223372036854775808).toNat = _
  have e : BitVec.ofInt 64 9223372036854775808 = BitVec.ofNat 64 9223372036854775808 := by decide
  have hb : BitVec.ofInt 64 (x : Int) = BitVec.ofNat 64 x := BitVec.ofInt_natCast 64 x
  rw [e, hb, BitVec.toNat_or, BitVec.toNat_ofNat, BitVec.toNat_ofNat, Nat.mod_eq_of_lt (by omega), Nat.mod_eq_of_lt (by decide), Nat.or_comm]
  have := Nat.two_pow_add_eq_or_of_lt (i := 63) (b := x) (by omega) 1
  rw [show 2 ^ 63 * 1 = 9223372036854775808 from rfl] at this
  rw [← this]; omega
theorem xor_key (x : Nat) (hx : x < 18446744073709551616) : (BitVec.ofInt IntKind.u64.bits (if IntKind.u64.signed then -1 else IntKind.u64.max) ^^^ BitVec.ofInt IntKind.u64.bits (x : Int)).toNat = 18446744073709551615 - x := by
  show (BitVec.ofInt 64 18446744073709551615 ^^^ BitVec.ofInt 64 (x : Int)).toNat = _
  have e : BitVec.ofInt 64 18446744073709551615 = BitVec.allOnes 64 := by decide
  have hb : BitVec.ofInt 64 (x : Int) = BitVec.ofNat 64 x := BitVec.ofInt_natCast 64 x
  rw [e, hb, BitVec.allOnes_xor, BitVec.toNat_not, BitVec.toNat_ofNat, Nat.mod_eq_of_lt (by omega)]

theorem key_eq (x : Nat) (hx : x < 18446744073709551616) : keyR x = keyD x := by
  have hw : IntKind.i64.wrap (x : Int) < 0 ↔ ¬ (x : Int) < 9223372036854775808 := by rw [IntKind.wrap_i64]; omega
  unfold keyR keyD
  split
  · rfl
  · by_cases c : (x : Int) < 9223372036854775808
    · rw [if_neg (fun e => hw.1 e c), if_pos c, or_key x (by omega), show ((x + 9223372036854775808 : Nat) : Int) = (x : Int) + 9223372036854775808 by omega]
    · rw [if_pos (hw.2 c), if_neg c, xor_key x hx, show ((18446744073709551615 - x : Nat) : Int) = 18446744073709551615 - (x : Int) by omega]

theorem same_eq : ∀ {l m : List Fl}, (∀ f ∈ l, f.rank < 18446744073709551616) → (∀ f ∈ m, f.rank < 18446744073709551616) → sameL keyR l m = sameL keyD l m
  | [], [], _, _ => by rw [sameL, sameL]
  | [], _ :: _, _, _ => by rw [sameL_len (by simp), sameL_len (by simp)]
  | _ :: _, [], _, _ => by rw [sameL_len (by simp), sameL_len (by simp)]
  | f :: l, g :: m, h1, h2 => by
    have e1 : sameL keyR l m = sameL keyD l m := same_eq (fun x hx => h1 x (List.mem_cons_of_mem _ hx)) (fun x hx => h2 x (List.mem_cons_of_mem _ hx))
    have e2 : sameX keyR f g = sameX keyD f g := by
      unfold sameX
      rw [key_eq _ (h1 f (List.mem_cons_self ..)), key_eq _ (h2 g (List.mem_cons_self ..))]
    rw [sameL, sameL, e1, e2]

theorem rOne_ok (f : Fl) (h : Heap) (b : Nat) : ACalls Tryd.prog 45 [FlV f, FlV f] h b 0 (fun r h' => r = BoolV true ∧ h' = h) := by
  have c := oneGD_ok f f h b
  rw [sameX_refl] at c
  exact c
theorem tSame_ok (l : List Fl) (hl : l.length ≤ 1000000) (h : Heap) (b : Nat) : ACalls Tryd.prog 42 [FlsV l, FlsV l] h b 0 (fun r h' => r = BoolV true ∧ h' = h) := by
  have c := tSameG_ok l l hl h b
  rw [sameL_refl] at c
  exact c

end Go.Proofs.YtengjcdilnikhaaDoor
