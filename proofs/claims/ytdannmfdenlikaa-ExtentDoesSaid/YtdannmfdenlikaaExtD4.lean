/-
  Walks of the reference for extents: set; Extents, plainly: set bit by bit.
-/
import Derived.Test.YtdannmfdenlikaaExtD3
namespace Go.Proofs.Ytdannmfdenlikaa
set_option linter.unusedSimpArgs false
set_option linter.unusedVariables false
set_option linter.unnecessarySimpa false
open Go Am
set_option maxRecDepth 100000

/-- the bits, those of the first j of s being on -/
def setB (x : Exts) (s : Ext) (on : Bool) (j : Nat) (p : Nat) : Bool := if s.at_ ≤ (p : Int) ∧ (p : Int) < s.at_ + (j : Int) then on else bitB x p
def hitS (x : Exts) (s : Ext) (on : Bool) : Prop := ∃ p : Nat, s.at_ ≤ (p : Int) ∧ (p : Int) < s.at_ + s.len ∧ bitB x p = on
noncomputable instance (x : Exts) (s : Ext) (on : Bool) : Decidable (hitS x s on) := Classical.propDecidable _
noncomputable def setX (x : Exts) (s : Ext) (on : Bool) : Exts × Bool := if hitS x s on then (⟨0, []⟩, false) else (ofX (setB x s on s.len.toNat) x.size.toNat, true)

def setI (x : Exts) (s : Ext) (on : Bool) (sz : Nat) (h : Heap) (b i : Nat) (st : St) : Prop :=
  (∀ p : Nat, s.at_ ≤ (p : Int) → (p : Int) < s.at_ + (i : Int) → bitB x p ≠ on) ∧
  st.h b = some ⟨0, encX x⟩ ∧ st.h (b + 1) = some ⟨0, (encE s).map .p⟩ ∧ st.h (b + 2) = some ⟨0, [.p (.v (.int .i64 0)), .p (.v (.slice none 0 0))]⟩ ∧ st.h (b + 3) = some ⟨0, bitsC (setB x s on i) sz⟩ ∧ (∀ id, id < b → st.h id = h id) ∧
    st.t 2 = BoolV on ∧ st.t 3 = .one (.ptr b 0 0) ∧ st.t 4 = .one (.ptr (b + 1) 0 0) ∧ st.t 6 = .one (.ptr (b + 2) 0 0) ∧ st.t 8 = .one (.win (b + 3) 0 0 sz sz) ∧ st.t 13 = IntV s.len ∧ st.t 14 = IntV i

theorem set_ok (x : Exts) (s : Ext) (on : Bool) (h : Heap) (b : Nat) (hc : chk x = 0) (hs : fitsB x.size s = true) (hl : x.free.length ≤ 1000000) :
    ACalls Try.prog 37 [ExtsV x, ExtV s, BoolV on] h b 0 (fun r h' => r = .tup [ExtsV (setX x s on).1, BoolV (setX x s on).2] ∧ h' = h) := by
  refine ACalls.enter Try.func37 rfl (by simp [Try.ntmps37]) (fun ι w hn H => ?_)
  have hlow := H.lowCells
  obtain ⟨hc0, hc1, hc2, hc3⟩ := chk_iff.1 hc
  obtain ⟨s0, s1, s2⟩ := (fits_iff hc0 hc1).1 hs
  obtain ⟨sz, hsz⟩ : ∃ sz : Nat, x.size = (sz : Int) := ⟨x.size.toNat, by omega⟩
  unfold ExtsV ExtV
  refine AWP.seqReg (by kernel_rfl) (fun E K hE hK => ?_); simp -implicitDefEqProofs only [go_sem, ↓reduceIte, Nat.reduceEqDiff, Nat.reduceAdd, Nat.reduceMul, Nat.reduceLT, Nat.reduceLeDiff, reduceCtorEq, Int.toNat_natCast]; refine hK _ _ _ ?_; clear hE hK K E
  refine AWP.seqReg (by kernel_rfl) (fun E K hE hK => ?_); simp -implicitDefEqProofs only [go_sem, ↓reduceIte, Nat.reduceEqDiff, Nat.reduceAdd, Nat.reduceMul, Nat.reduceLT, Nat.reduceLeDiff, reduceCtorEq, Int.toNat_natCast, encX]
  refine CallR.use (bits_ok x _ _ hc sz hsz hl) body_39 ?_; rintro _ _ ⟨rfl, rfl⟩
  simp -implicitDefEqProofs only [go_sem, ↓reduceIte, Nat.reduceEqDiff, Nat.reduceAdd, Nat.reduceMul, Nat.reduceLT, Nat.reduceLeDiff, reduceCtorEq, Int.toNat_natCast]
  refine hK _ _ _ ?_; clear hE hK K E
  refine AWP.seq ?_
  refine AWP.seqReg (by kernel_rfl) (fun E K hE hK => ?_); simp -implicitDefEqProofs only [go_sem, ↓reduceIte, Nat.reduceEqDiff, Nat.reduceAdd, Nat.reduceMul, Nat.reduceLT, Nat.reduceLeDiff, reduceCtorEq, Int.toNat_natCast]; refine hK _ _ _ ?_; clear hE hK K E
  refine AWP.block ?_
  obtain ⟨sl, hsl⟩ : ∃ sl : Nat, s.len = (sl : Int) := ⟨s.len.toNat, by omega⟩
  have hB0 : bitsC (bitB x) sz = bitsC (setB x s on 0) sz := bitsC_congr fun p _ => by unfold setB; rw [if_neg (by omega)]
  rw [hB0]
  refine AWP.loopUp 4 sl (setI x s on sz h b) 0 (Nat.zero_le _) rfl ⟨fun p h1 h2 => by omega, by (first | (simp -implicitDefEqProofs only [go_sem, ↓reduceIte, Nat.reduceEqDiff, Nat.reduceAdd, Nat.reduceMul, Nat.reduceLT, Nat.reduceLeDiff, reduceCtorEq, Int.toNat_natCast]; done) | (simp -implicitDefEqProofs only [go_sem, ↓reduceIte, Nat.reduceEqDiff, Nat.reduceAdd, Nat.reduceMul, Nat.reduceLT, Nat.reduceLeDiff, reduceCtorEq, Int.toNat_natCast]; rfl) | rfl), by (first | (simp -implicitDefEqProofs only [go_sem, ↓reduceIte, Nat.reduceEqDiff, Nat.reduceAdd, Nat.reduceMul, Nat.reduceLT, Nat.reduceLeDiff, reduceCtorEq, Int.toNat_natCast]; done) | (simp -implicitDefEqProofs only [go_sem, ↓reduceIte, Nat.reduceEqDiff, Nat.reduceAdd, Nat.reduceMul, Nat.reduceLT, Nat.reduceLeDiff, reduceCtorEq, Int.toNat_natCast]; rfl) | rfl), by (first | (simp -implicitDefEqProofs only [go_sem, ↓reduceIte, Nat.reduceEqDiff, Nat.reduceAdd, Nat.reduceMul, Nat.reduceLT, Nat.reduceLeDiff, reduceCtorEq, Int.toNat_natCast]; done) | (simp -implicitDefEqProofs only [go_sem, ↓reduceIte, Nat.reduceEqDiff, Nat.reduceAdd, Nat.reduceMul, Nat.reduceLT, Nat.reduceLeDiff, reduceCtorEq, Int.toNat_natCast]; rfl) | rfl), by (first | (simp -implicitDefEqProofs only [go_sem, ↓reduceIte, Nat.reduceEqDiff, Nat.reduceAdd, Nat.reduceMul, Nat.reduceLT, Nat.reduceLeDiff, reduceCtorEq, Int.toNat_natCast]; done) | (simp -implicitDefEqProofs only [go_sem, ↓reduceIte, Nat.reduceEqDiff, Nat.reduceAdd, Nat.reduceMul, Nat.reduceLT, Nat.reduceLeDiff, reduceCtorEq, Int.toNat_natCast]; rfl) | rfl), (fun id (hid : id < b) => by simp -implicitDefEqProofs only [go_sem, ↓reduceIte, Nat.reduceEqDiff, Nat.reduceAdd, Nat.reduceMul, Nat.reduceLT, Nat.reduceLeDiff, reduceCtorEq, Int.toNat_natCast, show ¬ id = b by omega, show ¬ id = b + 1 by omega, show ¬ id = b + 2 by omega, show ¬ id = b + 3 by omega]), by simp -implicitDefEqProofs only [go_sem, ↓reduceIte, Nat.reduceEqDiff, Nat.reduceAdd, Nat.reduceMul, Nat.reduceLT, Nat.reduceLeDiff, reduceCtorEq, Int.toNat_natCast], by simp -implicitDefEqProofs only [go_sem, ↓reduceIte, Nat.reduceEqDiff, Nat.reduceAdd, Nat.reduceMul, Nat.reduceLT, Nat.reduceLeDiff, reduceCtorEq, Int.toNat_natCast], by simp -implicitDefEqProofs only [go_sem, ↓reduceIte, Nat.reduceEqDiff, Nat.reduceAdd, Nat.reduceMul, Nat.reduceLT, Nat.reduceLeDiff, reduceCtorEq, Int.toNat_natCast], by simp -implicitDefEqProofs only [go_sem, ↓reduceIte, Nat.reduceEqDiff, Nat.reduceAdd, Nat.reduceMul, Nat.reduceLT, Nat.reduceLeDiff, reduceCtorEq, Int.toNat_natCast], by simp -implicitDefEqProofs only [go_sem, ↓reduceIte, Nat.reduceEqDiff, Nat.reduceAdd, Nat.reduceMul, Nat.reduceLT, Nat.reduceLeDiff, reduceCtorEq, Int.toNat_natCast], by simp -implicitDefEqProofs only [go_sem, ↓reduceIte, Nat.reduceEqDiff, Nat.reduceAdd, Nat.reduceMul, Nat.reduceLT, Nat.reduceLeDiff, reduceCtorEq, Int.toNat_natCast], by (first | (simp -implicitDefEqProofs only [go_sem, ↓reduceIte, Nat.reduceEqDiff, Nat.reduceAdd, Nat.reduceMul, Nat.reduceLT, Nat.reduceLeDiff, reduceCtorEq, Int.toNat_natCast]; done) | (simp -implicitDefEqProofs only [go_sem, ↓reduceIte, Nat.reduceEqDiff, Nat.reduceAdd, Nat.reduceMul, Nat.reduceLT, Nat.reduceLeDiff, reduceCtorEq, Int.toNat_natCast]; rfl) | rfl)⟩ ?_
  rintro i ⟨t, hh, n⟩ hi ⟨hno, hb, hb1, hb2, hb3, ho, e2, e3, e4, e6, e8, e13, e14⟩ hn1
  simp only at hb hb1 hb2 hb3 ho e2 e3 e4 e6 e8 e13 e14 hn1
  subst hn1
  refine AWP.seqReg (by kernel_rfl) (fun E K hE hK => ?_); simp -implicitDefEqProofs only [go_sem, ↓reduceIte, Nat.reduceEqDiff, Nat.reduceAdd, Nat.reduceMul, Nat.reduceLT, Nat.reduceLeDiff, reduceCtorEq, Int.toNat_natCast, e13, e14, hsl]; refine hK _ _ _ ?_; clear hE hK K E
  by_cases hlt : (i : Int) < (sl : Int)
  case neg =>
    have his : i = sl := by omega
    subst his
    refine AWP.seq ?_
    refine AWP.ifF (by simp -implicitDefEqProofs only [go_sem, ↓reduceIte, Nat.reduceEqDiff, Nat.reduceAdd, Nat.reduceMul, Nat.reduceLT, Nat.reduceLeDiff, reduceCtorEq, Int.toNat_natCast, hlt]) ?_
    refine AWP.exit ?_
    simp -implicitDefEqProofs only [go_sem, ↓reduceIte, Nat.reduceEqDiff, Nat.reduceAdd, Nat.reduceMul, Nat.reduceLT, Nat.reduceLeDiff, reduceCtorEq, Int.toNat_natCast]
    have hX : setX x s on = (ofX (setB x s on i) sz, true) := by
      unfold setX
      rw [if_neg ?_, hsl, hsz]; rfl
      rintro ⟨p, p1, p2, p3⟩
      exact hno p p1 (by omega) p3
    refine AWP.seqReg (by kernel_rfl) (fun E K hE hK => ?_); simp -implicitDefEqProofs only [go_sem, ↓reduceIte, Nat.reduceEqDiff, Nat.reduceAdd, Nat.reduceMul, Nat.reduceLT, Nat.reduceLeDiff, reduceCtorEq, Int.toNat_natCast, e8]
    refine CallR.use (of_ok (setB x s on i) sz (b + 3) _ _ (by omega) (Nat.add_lt_add_left (by decide) _) (by simp -implicitDefEqProofs only [go_sem, ↓reduceIte, Nat.reduceEqDiff, Nat.reduceAdd, Nat.reduceMul, Nat.reduceLT, Nat.reduceLeDiff, reduceCtorEq, Int.toNat_natCast, hb3])) body_38 ?_; rintro _ h_ ⟨rfl, e_⟩; rw [e_]; clear e_ h_; simp -implicitDefEqProofs only [go_sem, ↓reduceIte, Nat.reduceEqDiff, Nat.reduceAdd, Nat.reduceMul, Nat.reduceLT, Nat.reduceLeDiff, reduceCtorEq, Int.toNat_natCast]
    unfold ExtsV
    simp -implicitDefEqProofs only [go_sem, ↓reduceIte, Nat.reduceEqDiff, Nat.reduceAdd, Nat.reduceMul, Nat.reduceLT, Nat.reduceLeDiff, reduceCtorEq, Int.toNat_natCast, e6, hb2]
    refine hK _ _ _ ?_; clear hE hK K E
    refine AWP.ret ?_
    simp -implicitDefEqProofs only [go_sem, ↓reduceIte, Nat.reduceEqDiff, Nat.reduceAdd, Nat.reduceMul, Nat.reduceLT, Nat.reduceLeDiff, reduceCtorEq, Int.toNat_natCast]
    exact Ends.pure hn H (lowEq_ne ho (Nat.le_add_right _ _) _) (r0 := .tup [ExtsV (ofX (setB x s on i) sz), BoolV true]) (by rw [show Try.f37.results.toList = [.cell 6 26, .tmp 7] from rfl]; simp -implicitDefEqProofs only [go_sem, ↓reduceIte, Nat.reduceEqDiff, Nat.reduceAdd, Nat.reduceMul, Nat.reduceLT, Nat.reduceLeDiff, reduceCtorEq, Int.toNat_natCast, e6]; rfl) (frz_tup2 (frz_agg2 (frz_p _) (frz_p _)) (.v _)) ⟨by rw [hX], rfl⟩
  have hi2 : i < sl := by omega
  refine AWP.seq ?_
  refine AWP.ifT (by simp -implicitDefEqProofs only [go_sem, ↓reduceIte, Nat.reduceEqDiff, Nat.reduceAdd, Nat.reduceMul, Nat.reduceLT, Nat.reduceLeDiff, reduceCtorEq, Int.toNat_natCast, hlt]) ?_
  refine AWP.skip ?_
  simp -implicitDefEqProofs only [go_sem, ↓reduceIte, Nat.reduceEqDiff, Nat.reduceAdd, Nat.reduceMul, Nat.reduceLT, Nat.reduceLeDiff, reduceCtorEq, Int.toNat_natCast]
  refine AWP.seq ?_
  refine AWP.block ?_
  refine AWP.seqReg (by kernel_rfl) (fun E K hE hK => ?_); simp -implicitDefEqProofs only [go_sem, ↓reduceIte, Nat.reduceEqDiff, Nat.reduceAdd, Nat.reduceMul, Nat.reduceLT, Nat.reduceLeDiff, reduceCtorEq, Int.toNat_natCast, e14]; refine hK _ _ _ ?_; clear hE hK K E
  have ha1 : IntKind.i64.wrap (s.at_ + (i : Int)) = s.at_ + (i : Int) := wrap_i64 (by omega) (by omega)
  obtain ⟨k, hk⟩ : ∃ k : Nat, s.at_ + (i : Int) = (k : Int) := ⟨(s.at_ + (i : Int)).toNat, by omega⟩
  have hkz : k < sz := by omega
  have hkw : IntKind.i64.wrap (k : Int) = (k : Int) := wrap_i64 (by omega) (by omega)
  have hset := bitsC_set (f := setB x s on i) (g := setB x s on (i + 1)) hkz on (by unfold setB; rw [if_pos (by omega)]) (fun p _ hp => by
    unfold setB
    by_cases hc : s.at_ ≤ (p : Int) ∧ (p : Int) < s.at_ + (i : Int)
    · rw [if_pos hc, if_pos (by omega)]
    · rw [if_neg hc, if_neg (by omega)])
  have hBl := bitsC_len (setB x s on i) sz
  have hBg := bitsC_get (setB x s on i) hkz
  rw [show setB x s on i k = bitB x k by unfold setB; rw [if_neg (by omega)]] at hBg
  generalize bitsC (setB x s on i) sz = B at hb3 hset hBl hBg
  refine AWP.seq ?_
  refine AWP.seqReg (by kernel_rfl) (fun E K hE hK => ?_); simp -implicitDefEqProofs only [go_sem, ↓reduceIte, Nat.reduceEqDiff, Nat.reduceAdd, Nat.reduceMul, Nat.reduceLT, Nat.reduceLeDiff, reduceCtorEq, Int.toNat_natCast, e2, e4, e8, hb1, hb3, encE, ha1, hk, hkw, hBg, hBl, Nat.mul_one]
  refine ⟨⟨by omega, by omega⟩, ?_⟩
  have hX : bitB x k = on → setX x s on = (⟨0, []⟩, false) := fun hon => by
    unfold setX
    rw [if_pos ⟨k, by omega, by omega, hon⟩]
  refine ⟨fun hv => ?_, fun hv => ?_⟩
  all_goals
    subst hv
    refine hK _ _ _ ?_; clear hE hK K E
    cases hon : bitB x k
  case' refine_1.false | refine_2.true =>
    refine AWP.ifF (by simp -implicitDefEqProofs only [go_sem, ↓reduceIte, Nat.reduceEqDiff, Nat.reduceAdd, Nat.reduceMul, Nat.reduceLT, Nat.reduceLeDiff, reduceCtorEq, Int.toNat_natCast]; rfl) ?_; refine AWP.skip ?_; simp -implicitDefEqProofs only [go_sem, ↓reduceIte, Nat.reduceEqDiff, Nat.reduceAdd, Nat.reduceMul, Nat.reduceLT, Nat.reduceLeDiff, reduceCtorEq, Int.toNat_natCast]
    refine AWP.reg (by kernel_rfl) (fun E K hE hK => ?_); simp -implicitDefEqProofs only [go_sem, ↓reduceIte, Nat.reduceEqDiff, Nat.reduceAdd, Nat.reduceMul, Nat.reduceLT, Nat.reduceLeDiff, reduceCtorEq, Int.toNat_natCast, e2, e4, e8, hb1, hb3, encE, ha1, hk, hkw, hBl, Nat.mul_one]
    refine ⟨⟨by omega, by omega⟩, by omega, ?_⟩
    rw [hset]
    refine hK _ _ _ ?_; clear hE hK K E
    refine AWP.reg (by kernel_rfl) (fun E K hE hK => ?_); simp -implicitDefEqProofs only [go_sem, ↓reduceIte, Nat.reduceEqDiff, Nat.reduceAdd, Nat.reduceMul, Nat.reduceLT, Nat.reduceLeDiff, reduceCtorEq, Int.toNat_natCast, e14]
    refine hK _ _ _ ?_; clear hE hK K E
    refine ⟨(by decide : 4 ≤ 4), by omega, fun p h1 h2 => ?_, cutH_same (Nat.lt_add_of_pos_right (by decide)) (by (first | (simp -implicitDefEqProofs only [go_sem, ↓reduceIte, Nat.reduceEqDiff, Nat.reduceAdd, Nat.reduceMul, Nat.reduceLT, Nat.reduceLeDiff, reduceCtorEq, Int.toNat_natCast, hb]; done) | (simp -implicitDefEqProofs only [go_sem, ↓reduceIte, Nat.reduceEqDiff, Nat.reduceAdd, Nat.reduceMul, Nat.reduceLT, Nat.reduceLeDiff, reduceCtorEq, Int.toNat_natCast, hb]; rfl) | rfl)) rfl, cutH_same (Nat.add_lt_add_left (by decide) _) (by (first | (simp -implicitDefEqProofs only [go_sem, ↓reduceIte, Nat.reduceEqDiff, Nat.reduceAdd, Nat.reduceMul, Nat.reduceLT, Nat.reduceLeDiff, reduceCtorEq, Int.toNat_natCast, hb1]; done) | (simp -implicitDefEqProofs only [go_sem, ↓reduceIte, Nat.reduceEqDiff, Nat.reduceAdd, Nat.reduceMul, Nat.reduceLT, Nat.reduceLeDiff, reduceCtorEq, Int.toNat_natCast, hb1]; rfl) | rfl)) rfl, cutH_same (Nat.add_lt_add_left (by decide) _) (by (first | (simp -implicitDefEqProofs only [go_sem, ↓reduceIte, Nat.reduceEqDiff, Nat.reduceAdd, Nat.reduceMul, Nat.reduceLT, Nat.reduceLeDiff, reduceCtorEq, Int.toNat_natCast, hb2]; done) | (simp -implicitDefEqProofs only [go_sem, ↓reduceIte, Nat.reduceEqDiff, Nat.reduceAdd, Nat.reduceMul, Nat.reduceLT, Nat.reduceLeDiff, reduceCtorEq, Int.toNat_natCast, hb2]; rfl) | rfl)) rfl, cutH_same (Nat.add_lt_add_left (by decide) _) (by (first | (simp -implicitDefEqProofs only [go_sem, ↓reduceIte, Nat.reduceEqDiff, Nat.reduceAdd, Nat.reduceMul, Nat.reduceLT, Nat.reduceLeDiff, reduceCtorEq, Int.toNat_natCast]; done) | (simp -implicitDefEqProofs only [go_sem, ↓reduceIte, Nat.reduceEqDiff, Nat.reduceAdd, Nat.reduceMul, Nat.reduceLT, Nat.reduceLeDiff, reduceCtorEq, Int.toNat_natCast]; rfl) | rfl)) (bitsC_low _ _ _), cutH_outer (Nat.le_add_right _ _) ((fun id (hid : id < b) => by simp -implicitDefEqProofs only [go_sem, ↓reduceIte, Nat.reduceEqDiff, Nat.reduceAdd, Nat.reduceMul, Nat.reduceLT, Nat.reduceLeDiff, reduceCtorEq, Int.toNat_natCast, show ¬ id = b by omega, show ¬ id = b + 1 by omega, show ¬ id = b + 2 by omega, show ¬ id = b + 3 by omega, ho id hid])) hlow,
      by simp -implicitDefEqProofs only [go_sem, ↓reduceIte, Nat.reduceEqDiff, Nat.reduceAdd, Nat.reduceMul, Nat.reduceLT, Nat.reduceLeDiff, reduceCtorEq, Int.toNat_natCast, e2], by simp -implicitDefEqProofs only [go_sem, ↓reduceIte, Nat.reduceEqDiff, Nat.reduceAdd, Nat.reduceMul, Nat.reduceLT, Nat.reduceLeDiff, reduceCtorEq, Int.toNat_natCast, e3]; exact cutV_ptr (Nat.lt_add_of_pos_right (by decide)), by simp -implicitDefEqProofs only [go_sem, ↓reduceIte, Nat.reduceEqDiff, Nat.reduceAdd, Nat.reduceMul, Nat.reduceLT, Nat.reduceLeDiff, reduceCtorEq, Int.toNat_natCast, e4]; exact cutV_ptr (Nat.add_lt_add_left (by decide) _), by simp -implicitDefEqProofs only [go_sem, ↓reduceIte, Nat.reduceEqDiff, Nat.reduceAdd, Nat.reduceMul, Nat.reduceLT, Nat.reduceLeDiff, reduceCtorEq, Int.toNat_natCast, e6]; exact cutV_ptr (Nat.add_lt_add_left (by decide) _), by simp -implicitDefEqProofs only [go_sem, ↓reduceIte, Nat.reduceEqDiff, Nat.reduceAdd, Nat.reduceMul, Nat.reduceLT, Nat.reduceLeDiff, reduceCtorEq, Int.toNat_natCast, e8]; exact cutV_win (Nat.add_lt_add_left (by decide) _), by simp -implicitDefEqProofs only [go_sem, ↓reduceIte, Nat.reduceEqDiff, Nat.reduceAdd, Nat.reduceMul, Nat.reduceLT, Nat.reduceLeDiff, reduceCtorEq, Int.toNat_natCast, e13], ?_⟩
    · by_cases hpk : (p : Int) < s.at_ + (i : Int)
      · exact hno p h1 hpk
      · have : p = k := by omega
        subst this
        rw [hon]; decide
    · simp -implicitDefEqProofs only [go_sem, ↓reduceIte, Nat.reduceEqDiff, Nat.reduceAdd, Nat.reduceMul, Nat.reduceLT, Nat.reduceLeDiff, reduceCtorEq, Int.toNat_natCast]; rw [wrap_i64 (by omega) (by omega)]; rfl
  all_goals
    refine AWP.ifT (by simp -implicitDefEqProofs only [go_sem, ↓reduceIte, Nat.reduceEqDiff, Nat.reduceAdd, Nat.reduceMul, Nat.reduceLT, Nat.reduceLeDiff, reduceCtorEq, Int.toNat_natCast]; rfl) ?_
    refine AWP.seqReg (by kernel_rfl) (fun E K hE hK => ?_); simp -implicitDefEqProofs only [go_sem, ↓reduceIte, Nat.reduceEqDiff, Nat.reduceAdd, Nat.reduceMul, Nat.reduceLT, Nat.reduceLeDiff, reduceCtorEq, Int.toNat_natCast, e6, hb2]; refine hK _ _ _ ?_; clear hE hK K E
    refine AWP.ret ?_
    simp -implicitDefEqProofs only [go_sem, ↓reduceIte, Nat.reduceEqDiff, Nat.reduceAdd, Nat.reduceMul, Nat.reduceLT, Nat.reduceLeDiff, reduceCtorEq, Int.toNat_natCast]
    exact Ends.pure hn H (lowEq_ne ho (Nat.le_add_right _ _) _) (r0 := .tup [.agg [.p (.v (.int .i64 0)), .p (.v (.slice none 0 0))], BoolV false]) (by rw [show Try.f37.results.toList = [.cell 6 26, .tmp 7] from rfl]; simp -implicitDefEqProofs only [go_sem, ↓reduceIte, Nat.reduceEqDiff, Nat.reduceAdd, Nat.reduceMul, Nat.reduceLT, Nat.reduceLeDiff, reduceCtorEq, Int.toNat_natCast, e6]) (frz_tup2 (frz_agg2 (frz_p _) (frz_nil 2)) (.v _)) ⟨by rw [hX hon]; rfl, rfl⟩

end Go.Proofs.Ytdannmfdenlikaa

namespace Go.Proofs.Ytdannmfdenlikaa
set_option linter.unusedSimpArgs false
set_option linter.unusedVariables false
set_option linter.unnecessarySimpa false
open Go Am

theorem bitB_cnt {x : Exts} (hc : chk x = 0) (p : Nat) : cnt x.free p = if bitB x p = true then 1 else 0 := by
  have := cnt1 hc p
  unfold bitB
  by_cases h : 0 < cnt x.free p
  · rw [if_pos (by simpa using h)]; omega
  · rw [if_neg (by simpa using h)]; omega

theorem set_keep {x : Exts} {s : Ext} (hc : chk x = 0) (hf : fitsB x.size s = true) :
    (setX x s false = (⟨0, []⟩, false) ∧ keepX x s = (⟨0, []⟩, 4)) ∨ (setX x s false = ((keepX x s).1, true) ∧ (keepX x s).2 = 0) := by
  obtain ⟨c0, c1, _, _⟩ := chk_iff.1 hc
  obtain ⟨s0, s1, s2⟩ := (fits_iff c0 c1).1 hf
  rcases keep_iff hc hf with ⟨h1, y, e1, ok⟩ | ⟨h1, e1⟩
  · right
    rw [e1]
    refine ⟨?_, rfl⟩
    unfold setX
    rw [if_neg ?_]
    · have hsz : x.size = (x.size.toNat : Int) := by omega
      refine Prod.ext (ofX_eq (by omega) ok.chk (by rw [ok.size]; exact hsz) (fun p hp => ?_)) rfl
      show cnt y.free (p : Int) = _
      have h2 := ok.cnt p
      have h3 := bitB_cnt hc p
      have h4 := cnt1 hc (p : Int)
      unfold setB
      by_cases hin : s.at_ ≤ (p : Int) ∧ (p : Int) < s.at_ + (s.len.toNat : Int)
      · rw [if_pos hin, if_neg (by decide)]
        rw [ind_iff.2 (by omega)] at h2
        omega
      · rw [if_neg hin]
        rw [ind_zero (by omega)] at h2
        omega
    · rintro ⟨p, p1, p2, p3⟩
      have h2 := h1 p (ind_iff.2 ⟨p1, p2⟩)
      rw [bitB_cnt hc p, p3] at h2
      exact absurd h2 (by decide)
  · left
    refine ⟨?_, e1⟩
    unfold setX
    rw [if_pos ?_]
    by_cases hh : hitS x s false
    · exact hh
    · exfalso
      refine h1 (fun p hp => ?_)
      have hp' := ind_iff.1 hp
      have h2 := bitB_cnt hc p.toNat
      rw [show ((p.toNat : Nat) : Int) = p by omega] at h2
      cases hb : bitB x p.toNat with
      | false => exact absurd ⟨p.toNat, by omega, by omega, hb⟩ hh
      | true => rw [h2, hb]; rfl

theorem set_give {x : Exts} {s : Ext} (hc : chk x = 0) (hf : fitsB x.size s = true) :
    (setX x s true = (⟨0, []⟩, false) ∧ giveX x s = (⟨0, []⟩, 5)) ∨ (setX x s true = ((giveX x s).1, true) ∧ (giveX x s).2 = 0) := by
  obtain ⟨c0, c1, _, _⟩ := chk_iff.1 hc
  obtain ⟨s0, s1, s2⟩ := (fits_iff c0 c1).1 hf
  rcases give_iff hc hf with ⟨h1, y, e1, ok⟩ | ⟨h1, e1⟩
  · right
    rw [e1]
    refine ⟨?_, rfl⟩
    unfold setX
    rw [if_neg ?_]
    · have hsz : x.size = (x.size.toNat : Int) := by omega
      refine Prod.ext (ofX_eq (by omega) ok.chk (by rw [ok.size]; exact hsz) (fun p hp => ?_)) rfl
      show cnt y.free (p : Int) = _
      have h2 := ok.cnt p
      have h3 := bitB_cnt hc p
      unfold setB
      by_cases hin : s.at_ ≤ (p : Int) ∧ (p : Int) < s.at_ + (s.len.toNat : Int)
      · rw [if_pos hin, if_pos rfl]
        have hi := ind_iff.2 (show s.at_ ≤ (p : Int) ∧ (p : Int) < s.at_ + s.len by omega)
        have h4 := h1 p hi
        rw [hi] at h2
        omega
      · rw [if_neg hin]
        rw [ind_zero (by omega)] at h2
        omega
    · rintro ⟨p, p1, p2, p3⟩
      have h2 := h1 p (ind_iff.2 ⟨p1, p2⟩)
      rw [bitB_cnt hc p, p3] at h2
      exact absurd h2 (by decide)
  · left
    refine ⟨?_, e1⟩
    unfold setX
    rw [if_pos ?_]
    by_cases hh : hitS x s true
    · exact hh
    · exfalso
      refine h1 (fun p hp => ?_)
      have hp' := ind_iff.1 hp
      have h2 := bitB_cnt hc p.toNat
      rw [show ((p.toNat : Nat) : Int) = p by omega] at h2
      cases hb : bitB x p.toNat with
      | true => exact absurd ⟨p.toNat, by omega, by omega, hb⟩ hh
      | false => rw [h2, hb]; rfl

end Go.Proofs.Ytdannmfdenlikaa
