/-
  The reference's From, as a function of octets; it is the program's; The reference's walks of wire: put, take, Of; The reference's walks of wire: One, Bytes, Long; The reference's walk of wire: From.
-/
import Derived.Test.YthnhpbihgalgeaaDoorWiPure
import Derived.Test.YthnhpbihgalgeaaDoorWiX1
import Derived.Test.YthnhpbihgalgeaaDoorTbD1
namespace Go.Proofs.YthnhpbihgalgeaaDoor
set_option linter.unusedSimpArgs false
set_option linter.unusedVariables false
set_option linter.unnecessarySimpa false
open Go Am
set_option maxRecDepth 100000

theorem readF_len {u v : S} {f : Fl} (h : readF u = some (f, v)) : ∃ c r, u = c :: r ∧ u.length = c.toNat + 21 + v.length := by
  unfold readF at h
  simp only [Option.bind_eq_some_iff] at h
  obtain ⟨⟨a, s1⟩, h1, ⟨nm, s2⟩, h2, ⟨k, s3⟩, h3, h⟩ := h
  split at h
  · cases h
  · simp only [Option.bind_eq_some_iff] at h
    obtain ⟨⟨su, s4⟩, h4, ⟨bk, s5⟩, h5, ⟨fr, s6⟩, h6, ⟨ln, s7⟩, h7, h⟩ := h
    injection h with h
    injection h with e1 e2
    subst e2
    obtain ⟨rfl, l1⟩ := rdB_some h1
    obtain ⟨q2, l2⟩ := rdB_some h2
    obtain ⟨q3, l3⟩ := rdB_some h3
    obtain ⟨q4, l4⟩ := rdB_some h4
    obtain ⟨q5, l5⟩ := rdB_some h5
    obtain ⟨q6, l6⟩ := rdB_some h6
    obtain ⟨q7, l7⟩ := rdB_some h7
    simp only at q2 l2 q3 l3 q4 l4 q5 l5 q6 l6 q7 l7 ⊢
    match a, l1 with
    | [c], _ =>
      refine ⟨c, s1, rfl, ?_⟩
      have : unB [c] = c.toNat := by simp [unB]
      rw [this] at l2
      rw [q2, q3, q4, q5, q6, q7]
      simp only [List.length_append, List.length_cons, List.length_nil, l2, l3, l4, l5, l6, l7]
      omega

theorem readF_short {c : UInt8} {r : S} (h : (c :: r).length < c.toNat + 21) : readF (c :: r) = none := by
  cases e : readF (c :: r) with
  | none => rfl
  | some p =>
    obtain ⟨f, v⟩ := p
    obtain ⟨c', r', h1, h2⟩ := readF_len e
    injection h1 with h1 _
    subst h1
    omega

theorem rdB_pos {n : Nat} {s : S} (h : n ≤ s.length) : rdB n s = some (s.take n, s.drop n) := by unfold rdB; rw [if_pos h]
theorem readF_long {c : UInt8} {r : S} (h : c.toNat + 21 ≤ (c :: r).length) : readF (c :: r) =
    if (ofR (unB ((r.drop c.toNat).take 8))).2 ≠ 0 then none else
      some (⟨r.take c.toNat, (ofR (unB ((r.drop c.toNat).take 8))).1, unB ((r.drop (c.toNat + 8)).take 4), unB ((r.drop (c.toNat + 12)).take 2), unB ((r.drop (c.toNat + 14)).take 3), unB ((r.drop (c.toNat + 17)).take 3)⟩, r.drop (c.toNat + 20)) := by
  rw [List.length_cons] at h
  unfold readF
  rw [rdB_pos (by rw [List.length_cons]; omega)]
  have : unB ((c :: r).take 1) = c.toNat := by simp [unB]
  simp only [Option.bind_some, this, List.drop_succ_cons, List.drop_zero]
  rw [rdB_pos (by omega)]
  simp only [Option.bind_some]
  rw [rdB_pos (by rw [List.length_drop]; omega)]
  simp only [Option.bind_some]
  split
  · rfl
  · rw [rdB_pos (by simp only [List.length_drop]; omega)]
    simp only [Option.bind_some]
    rw [rdB_pos (by simp only [List.length_drop]; omega)]
    simp only [Option.bind_some]
    rw [rdB_pos (by simp only [List.length_drop]; omega)]
    simp only [Option.bind_some]
    rw [rdB_pos (by simp only [List.length_drop]; omega)]
    simp only [Option.bind_some, List.drop_drop]

def readA (u : S) : Option (List Fl) := if u = [] then some [] else match h : readF u with
  | none => none
  | some (f, v) => (readA v).map (f :: ·)
termination_by u.length
decreasing_by exact (readF_bd h).2.2.1

theorem readA_nil : readA [] = some [] := by rw [readA]; rfl
theorem readA_none {u : S} (hu : u ≠ []) (h : readF u = none) : readA u = none := by
  rw [readA, if_neg hu]
  split
  · rfl
  · rename_i h2; rw [h] at h2; cases h2
theorem readA_some {u v : S} {f : Fl} (h : readF u = some (f, v)) : readA u = (readA v).map (f :: ·) := by
  have hu : u ≠ [] := by
    obtain ⟨c, r, e, _⟩ := readF_len h
    rw [e]; simp
  rw [readA, if_neg hu]
  split
  · rename_i h2; rw [h] at h2; cases h2
  · rename_i f' v' h2
    rw [h] at h2; injection h2 with h2; injection h2 with h3 h4; subst h3; subst h4; rfl

theorem readA_files {l : List Fl} (hl : ∀ f ∈ l, FlBdR f) : readA (filesB l) = some (l.map canF) := by
  induction l with
  | nil => exact readA_nil
  | cons f l ih =>
    rw [show filesB (f :: l) = fileB f ++ filesB l from rfl, readA_some (readF_file (hl f (by simp)) _), ih (fun x hx => hl x (by simp [hx]))]
    rfl
theorem readA_bd : ∀ (k : Nat) {u : S} {l : List Fl}, u.length ≤ k → readA u = some l → ∀ f ∈ l, (0 ≤ f.sum ∧ f.sum < 4294967296) ∧ f.rank < 18446744073709551616
  | k, [], l, _, h => by rw [readA_nil] at h; injection h with h; subst h; simp
  | 0, _ :: _, l, hk, h => by simp at hk
  | k + 1, c :: r, l, hk, h => by
    cases e : readF (c :: r) with
    | none => rw [readA_none (by simp) e] at h; cases h
    | some p =>
      obtain ⟨f, v⟩ := p
      rw [readA_some e] at h
      obtain ⟨b1, b2, b3, _⟩ := readF_bd e
      obtain ⟨m, hm, rfl⟩ := Option.map_eq_some_iff.1 h
      have ih := readA_bd k (by omega) hm
      intro x hx
      rcases List.mem_cons.1 hx with rfl | hx
      · exact ⟨b1, b2⟩
      · exact ih x hx

def refFrom (s : S) : List Fl × Int := if 65536 < s.length then ([], 3) else if s.length < 2 then ([], 2) else match readA (s.drop 2) with
  | none => ([], 2)
  | some l => if bytesR l = (s, 0) then (l, 0) else ([], 2)

theorem bytesR_zero {l : List Fl} {s : S} (h : bytesR l = (s, 0)) : checkT l = 0 ∧ s = tableB l := by
  unfold bytesR at h
  split at h
  · rename_i c; exact ⟨c, (Prod.mk.inj h).1.symm⟩
  · rename_i c; exact absurd (Prod.mk.inj h).2 c

theorem refFrom_eq (s : S) : refFrom s = fromR s := by
  by_cases h1 : 65536 < s.length
  · unfold refFrom fromR; rw [if_pos h1, if_pos h1]
  by_cases h2 : (fromR s).2 = 0
  · obtain ⟨c1, c2, c3⟩ := fromR_sound h2
    have ht := fromR_table c3 c1
    rw [c2] at ht
    have hd : s.drop 2 = filesB (fromR s).1 := by
      conv => lhs; rw [← c2]
      unfold tableB
      rw [List.drop_append_of_le_length (by rw [leB_len]; exact Nat.le_refl _), List.drop_of_length_le (by rw [leB_len]; exact Nat.le_refl _), List.nil_append]
    have hl : ¬ s.length < 2 := by rw [← c2]; unfold tableB; rw [List.length_append, leB_len]; omega
    generalize (fromR s).1 = l at c1 c2 c3 ht hd
    unfold refFrom
    rw [if_neg h1, if_neg hl, hd, readA_files c3, ht]
    simp only
    have hb : bytesR (l.map canF) = (tableB l, 0) := by unfold bytesR; rw [checkT_can, if_pos c1, tableB_can (fun f hf => (c3 f hf).rank)]
    rw [hb, if_pos (by rw [c2])]
  · rw [fromR_bad (by omega) h2]
    unfold refFrom
    rw [if_neg h1]
    split
    · rfl
    · cases hr : readA (s.drop 2) with
      | none => rfl
      | some l =>
        simp only
        by_cases hb : bytesR l = (s, 0)
        · obtain ⟨c1, rfl⟩ := bytesR_zero hb
          have bd := readA_bd _ (Nat.le_refl _) hr
          have := fromR_table (bdR_of c1 (fun f hf => (bd f hf).1) (fun f hf => (bd f hf).2)) c1
          rw [this] at h2
          exact absurd rfl h2
        · rw [if_neg hb]
end Go.Proofs.YthnhpbihgalgeaaDoor

namespace Go.Proofs.YthnhpbihgalgeaaDoor
set_option linter.unusedSimpArgs false
set_option linter.unusedVariables false
set_option linter.unnecessarySimpa false
open Go Am
set_option maxRecDepth 100000

def rpI (v wd : Nat) (h : Heap) (b i : Nat) (st : St) : Prop :=
  ∃ ver cap, OctRow st.h b ver cap (leB i v) ∧ (∀ x, x < b → st.h x = h x) ∧ st.t 5 = .one (.win b ver 0 i cap) ∧ st.t 0 = U64V (v / 256 ^ i : Nat) ∧ st.t 6 = IntV wd ∧ st.t 7 = IntV (i : Nat)

theorem rPut_ok (v wd : Nat) (hv : v < 256 ^ 8) (hw : wd ≤ 8) (h : Heap) (b : Nat) :
    ACalls Tryd.prog 29 [U64V v, IntV wd] h b 1 (rowR 1 ((leB wd v).map encO) h b) := by
  refine ACalls.enter Tryd.func29 rfl (by simp [Tryd.ntmps29]) (fun ι w hn H => ?_)
  have hlow := H.lowCells
  refine Rk ?_
  refine Rk ?_
  refine AWP.virt 5 (by exact Er) ?_
  refine Ev ?_
  refine AWP.seq ?_
  refine Rk ?_
  refine AWP.block ?_
  refine AWP.loopM 1 (fun m st => ∃ i, i ≤ wd ∧ m = wd - i ∧ rpI v wd h b i st) wd rfl ⟨0, Nat.zero_le _, rfl, 0, 0, ⟨[], by exact Er, rfl, rfl⟩, Ou, by exact Er, by rw [Nat.pow_zero, Nat.div_one]; exact Er, by exact Er, by exact Er⟩ ?_
  rintro m ⟨t, hh, n⟩ ⟨i, hi, rfl, ver, cap, hr, ho, e5, e0, e6, e7⟩ hn1
  simp only at hr ho e5 e0 e6 e7 hn1
  subst hn1
  refine Rkf (jn2 @e6 @e7) ?_
  refine AWP.seq ?_
  by_cases hlt : (i : Int) < wd
  · have hw1 : IntKind.i64.wrap ((i : Int) + 1) = ((i + 1 : Nat) : Int) := by rw [wrap_i64 (by omega) (by omega)]; rfl
    obtain ⟨q, hq⟩ : ∃ q, q = v / 256 ^ i := ⟨_, rfl⟩
    have hq2 : q < 256 ^ 8 := Nat.lt_of_le_of_lt (by rw [hq]; exact Nat.div_le_self _ _) hv
    rw [pow8] at hq2
    rw [← hq] at e0
    have wr : IntKind.u64.wrap (((q : Nat) : Int).tmod 256) = ((q % 256 : Nat) : Int) := by rw [Int.tmod_eq_emod_of_nonneg (by omega), wrap_u64]; omega
    have wq : IntKind.u64.wrap (((q : Nat) : Int).tdiv 256) = ((v / 256 ^ (i + 1) : Nat) : Int) := by
      rw [Int.tdiv_eq_ediv_of_nonneg (by omega), wrap_u64, Nat.pow_succ, ← Nat.div_div_eq_div_mul, ← hq]; omega
    have w8 : IntKind.u8.wrap ((q % 256 : Nat) : Int) = ((UInt8.ofNat (q % 256)).toNat : Int) := by
      rw [wrap_u8]; simp
    have hln : (leB i v).length = i := leB_len _ _
    refine Btf @hlt ?_
    refine AWP.skip ?_
    refine Ev ?_
    refine AWP.seq ?_
    refine AWP.block ?_
    have e5' : t 5 = .one (.win b ver 0 (leB i v).length cap) := by rw [hln]; exact e5
    refine Rgf (jn4 @e0 @e5' @wr @w8) (fun E K hE hK => ?_)
    refine BiR.of ?_
    refine append_oct (y := [UInt8.ofNat (q % 256)]) (hr.ne (by show b ≠ b + 1; omega)) ty_isIntT_25 (by (first | (simp -implicitDefEqProofs only [go_sem, ↓reduceIte, Nat.reduceEqDiff, Nat.reduceAdd, Nat.reduceLT, Nat.reduceLeDiff, reduceCtorEq, Int.toNat_natCast, srcA]; first | done | rfl) | rfl)) (by omega) (by simp) (fun cap' T' q1 q2 => ?_)
    refine Ev ?_
    refine hK _ _ _ ?_; clear hE hK K E
    refine Raf (jn2 @e0 @wq) (fun E K hE hK => ?_); refine hK _ _ _ ?_; clear hE hK K E
    refine Ev ?_
    refine Raf (jn2 @e7 @hw1) (fun E K hE hK => ?_); refine hK _ _ _ ?_; clear hE hK K E
    have hsn : leB i v ++ [UInt8.ofNat (q % 256)] = leB (i + 1) v := by rw [leB_snoc, ← hq]
    rw [hsn]
    have hl2 : (leB (i + 1) v).length = i + 1 := leB_len _ _
    refine ⟨(by decide : 1 ≤ 2), wd - (i + 1), by omega, i + 1, by omega, rfl, ver + 1, cap', OctRow.cut ⟨T', by exact Er, by rw [hl2]; simp only [hln, List.length_cons, List.length_nil] at q1; omega, q2⟩ (Nat.lt_succ_self _), cutH_outer (Nat.le_succ _) (Ouf @ho) hlow, by refine Evf @hln ?_; exact cutV_win (Nat.lt_succ_self _), by exact Er, by exact Ecf @e6, by exact Er⟩
  · refine Bff @hlt ?_
    refine AWP.exit ?_
    refine Ev ?_
    have hil : i = wd := by omega
    subst hil
    obtain ⟨T, hb, h3, h4⟩ := hr
    have hln : (leB i v).length = i := leB_len _ _
    refine Rkf @e5 ?_
    refine AWP.ret ?_
    refine Ends.row (id := b) (blk := rowB ver ((leB i v).map encO) T) hn H ho (Nat.le_refl _) hb (lowCs_app (lowCs_p _ _) (lowCs_mono (Nat.zero_le _) h4)) (r0 := .one (.win b ver 0 i cap)) (by rw [show Tryd.f29.results.toList = [.tmp 4] from rfl]; exact Er) (renV.win0 _ _ _ _) ⟨ver, cap, T, ?_, ?_, h4, ?_, rfl⟩
    · rw [List.length_map]; omega
    · rw [List.length_map]; omega
    · rw [List.length_map, hln]

def rtI (s : S) (h : Heap) (b k : Nat) (st : St) : Prop :=
  st.h = h ∧ st.t 0 = OctV s ∧ st.t 3 = U64V (unB (s.drop k) : Nat) ∧ st.t 4 = IntV ((k : Int) - 1)

theorem unB_drop (s : S) (k : Nat) (h : k < s.length) : unB (s.drop k) = s[k].toNat + 256 * unB (s.drop (k + 1)) := by
  rw [List.drop_eq_getElem_cons h]; rfl

theorem rTake_ok (s : S) (hl : s.length ≤ 8) (h : Heap) (b : Nat) :
    ACalls Tryd.prog 33 [OctV s] h b 0 (fun r h' => r = U64V (unB s : Nat) ∧ h' = h) := by
  refine ACalls.enter Tryd.func33 rfl (by simp [Tryd.ntmps33]) (fun ι w hn H => ?_)
  have hlow := H.lowCells
  have hlm : (s.map encO).length = s.length := List.length_map _
  have w0 : IntKind.i64.wrap ((s.length : Int) - 1) = (s.length : Int) - 1 := wrap_i64 (by omega) (by omega)
  refine Rk ?_
  refine Rk ?_
  refine AWP.seq ?_
  refine Rkf (jn2 @hlm @w0) ?_
  refine AWP.block ?_
  refine AWP.loopM 0 (fun m st => ∃ k, k ≤ s.length ∧ m = k ∧ rtI s h b k st) s.length rfl ⟨s.length, Nat.le_refl _, rfl, rfl, by exact Er, by rw [List.drop_length]; exact Er, by exact Er⟩ ?_
  rintro m ⟨t, hh, n⟩ ⟨k, hk, rfl, hh0, e0, e3, e4⟩ hn1
  simp only at hh0 e0 e3 e4 hn1
  subst hn1
  subst hh0
  refine AWP.seq ?_
  refine Rkf @e4 ?_
  by_cases hlt : (0 : Int) ≤ (m : Int) - 1
  · have hm1 : m - 1 < s.length := by omega
    have hz : ((m : Int) - 1) = ((m - 1 : Nat) : Int) := by omega
    have hge : (s.map encO).getD (m - 1) [] = encO s[m - 1] := encO_getD s (m - 1) hm1
    have hd := unB_drop s (m - 1) hm1
    rw [show m - 1 + 1 = m by omega] at hd
    have hb2 := unB_lt (s.drop (m - 1))
    have hp : 256 ^ (s.drop (m - 1)).length ≤ 256 ^ 8 := Nat.pow_le_pow_right (by decide) (by rw [List.length_drop]; omega)
    rw [pow8] at hp
    have hc := s[m - 1].toNat_lt
    have w1 : IntKind.u64.wrap (256 * ((unB (s.drop m) : Nat) : Int)) = 256 * ((unB (s.drop m) : Nat) : Int) := by rw [wrap_u64]; omega
    have w2 : IntKind.u64.wrap ((s[m - 1].toNat : Nat) : Int) = ((s[m - 1].toNat : Nat) : Int) := by rw [wrap_u64]; omega
    have w3 : IntKind.u64.wrap (256 * ((unB (s.drop m) : Nat) : Int) + ((s[m - 1].toNat : Nat) : Int)) = ((unB (s.drop (m - 1)) : Nat) : Int) := by rw [wrap_u64, hd]; omega
    have w4 : IntKind.i64.wrap (((m - 1 : Nat) : Int) - 1) = ((m - 1 : Nat) : Int) - 1 := wrap_i64 (by omega) (by omega)
    have hge' : ((m - 1 : Nat) : Int) < s.length := by omega
    rw [hz] at e4
    refine Btf (show (0 : Int) ≤ (m : Int) - 1 from hlt) ?_
    refine AWP.skip ?_
    refine Ev ?_
    refine AWP.seq ?_
    refine AWP.block ?_
    refine Raf (jn3 @e0 @e3 (jn7 @e4 @hlm @hge @hge' @w1 @w2 @w3)) (fun E K hE hK => ?_)
    refine ⟨by omega, ?_⟩
    refine hK _ _ _ ?_; clear hE hK K E
    refine Ev ?_
    refine Raf (jn2 @e4 @w4) (fun E K hE hK => ?_); refine hK _ _ _ ?_; clear hE hK K E
    exact ⟨m - 1, by omega, m - 1, by omega, rfl, cutH_id rfl (fun _ _ => rfl) hn hlow, by exact Ecf @e0, by exact Er, by exact Er⟩
  · refine Bff (show ¬ (0 : Int) ≤ (m : Int) - 1 from hlt) ?_
    refine AWP.exit ?_
    refine Ev ?_
    have hm0 : m = 0 := by omega
    subst hm0
    rw [List.drop_zero] at e3
    refine Rkf @e3 ?_
    refine AWP.ret ?_
    exact Ends.pure hn H (fun _ _ => rfl) (r0 := U64V (unB s : Nat)) (by rw [show Tryd.f33.results.toList = [.tmp 2] from rfl]; exact Er) (.v _) ⟨rfl, rfl⟩

theorem rOf_ok (k : Nat) (hk : k < 18446744073709551616) (h : Heap) (b : Nat) : ACalls Tryd.prog 32 [U64V k] h b 0 (fun r h' => r = .tup [F64V (ofR k).1, IntV (ofR k).2] ∧ h' = h) := by
  refine ACalls.enter Tryd.func32 rfl (by simp [Tryd.ntmps32]) (fun ι w hn H => ?_)
  have fin : ∀ (t : Nat → AV) (hh : Heap) (n : Nat) (v : Nat × Int), t 2 = F64V v.1 → t 3 = IntV v.2 → (∀ id, id < b → hh id = h id) → v = ofR k → Am.Ends Tryd.prog ⟨Tryd.f32.ntmps, b, ι, h, w, x0⟩ Tryd.f32 0 (fun r h' => r = .tup [F64V (ofR k).1, IntV (ofR k).2] ∧ h' = h) ⟨t, hh, n⟩ := by
    intro t hh n v ht ht2 ho hv
    exact Ends.pure hn H ho (r0 := .tup [F64V v.1, IntV v.2]) (by rw [show Tryd.f32.results.toList = [.tmp 2, .tmp 3] from rfl]; exact Ecf (jn2 @ht @ht2)) (frz_tup2 (.v _) (.v _)) ⟨by rw [hv], rfl⟩
  refine Rk ?_
  refine AWP.seq ?_
  by_cases c1 : k = 18446744073709551615
  · have c1' : ((k : Nat) : Int) = 18446744073709551615 := by omega
    refine Rkf @c1' ?_
    refine Bt ?_
    refine Rg (fun E K hE hK => ?_)
    refine Us (nan_ok _ _) body_46 ?_
    refine hK _ _ _ ?_; clear hE hK K E
    refine AWP.ret ?_
    refine Ev ?_
    exact fin _ _ _ (nanV, 0) (by exact Er) (by exact Er) (fun _ _ => rfl) (by unfold ofR; rw [if_pos c1])
  have c1' : ¬ ((k : Nat) : Int) = 18446744073709551615 := by omega
  refine Rkf @c1' ?_
  refine Bs ?_
  have w1 : IntKind.u64.wrap (18446744073709551615 - (k : Int)) = ((18446744073709551615 - k : Nat) : Int) := by rw [wrap_u64]; omega
  refine Rkf @w1 ?_
  refine AWP.mid (fun st => st.n = 0 ∧ st.h = h ∧ st.t 0 = U64V k ∧ st.t 4 = U64V (ofN k)) ?_ ?_
  · by_cases c : 9223372036854775808 ≤ k
    · have c' : (9223372036854775808 : Int) ≤ k := by omega
      have w2 : IntKind.u64.wrap ((k : Int) - 9223372036854775808) = ((k - 9223372036854775808 : Nat) : Int) := by rw [wrap_u64]; omega
      have ho : ofN k = k - 9223372036854775808 := by unfold ofN; rw [if_pos c]
      refine Rkf @c' ?_
      refine Bt ?_
      refine Raf @w2 (fun E K hE hK => ?_); refine hK _ _ _ ?_; clear hE hK K E
      exact ⟨rfl, rfl, by exact Er, by rw [ho]; exact Er⟩
    · have c' : ¬ (9223372036854775808 : Int) ≤ k := by omega
      have ho : ofN k = 18446744073709551615 - k := by unfold ofN; rw [if_neg c]
      refine Rkf @c' ?_
      refine Bf ?_
      exact AWP.skip ⟨rfl, rfl, by exact Er, by rw [ho]; exact Er⟩
  rintro ⟨t, hh, n⟩ ⟨hn0, hh0, e0, e4⟩
  simp only at hn0 hh0 e0 e4
  subst hn0
  subst hh0
  refine Rgf @e4 (fun E K hE hK => ?_)
  refine CallR.ext (frombits_ext ?_)
  refine Ev ?_
  refine hK _ _ _ ?_; clear hE hK K E
  refine AWP.seq ?_
  refine Rg (fun E K hE hK => ?_)
  refine Us (rnone_ok (ofN k) _ _) body_44 ?_
  refine hK _ _ _ ?_; clear hE hK K E
  cases c2 : nanF (ofN k)
  · have c2' : (FloatKind.f64.format.order (ofN k) (ofN k) != some .eq) = false := c2
    refine Bsf @c2' ?_
    refine Rk ?_
    refine AWP.ret ?_
    exact fin _ _ _ (ofN k, 0) (by exact Er) (by exact Er) (fun _ _ => rfl) (by unfold ofR; rw [if_neg c1, c2, if_neg (by decide)])
  · have c2' : (FloatKind.f64.format.order (ofN k) (ofN k) != some .eq) = true := c2
    refine Btf @c2' ?_
    refine Rk ?_
    refine AWP.ret ?_
    refine Ev ?_
    exact fin _ _ _ (0, 2) (by exact Er) (by exact Er) (fun _ _ => rfl) (by unfold ofR; rw [if_neg c1, c2, if_pos rfl])
end Go.Proofs.YthnhpbihgalgeaaDoor

namespace Go.Proofs.YthnhpbihgalgeaaDoor
set_option linter.unusedSimpArgs false
set_option linter.unusedVariables false
set_option linter.unnecessarySimpa false
open Go Am
set_option maxRecDepth 100000

theorem checkT_one_of {l : List Fl} (h : ¬ checkT l = 0) : checkT l = 1 := by
  unfold checkT at h ⊢
  split <;> simp_all

theorem srcA_oct {h : Heap} {id ver cap : Nat} {T : List Cell} (y : S) (hb : h id = some (rowB ver (y.map encO) T)) : srcA h 1 (.one (.win id ver 0 y.length cap)) = some (y.length, y.map fun c => .p (.v (.int .u8 (c.toNat : Int)))) := by
  have hl : ((y.map encO).flatten.map Cell.p).length = y.length := by rw [flat_oct, List.length_map]
  simp only [srcA, hb, rowB]
  rw [if_pos ⟨trivial, by simp only [List.length_append, hl]; omega⟩, List.drop_zero, Nat.mul_one, List.take_append_of_le_length (by omega), List.take_of_length_le (by omega), flat_oct]

theorem refOne_ok (f : Fl) (hr : f.rank < 18446744073709551616) (hs : 0 ≤ f.sum ∧ f.sum < 4294967296) (hn0 : f.name.length ≤ 1000) (h : Heap) (b : Nat) :
    ACalls Tryd.prog 16 [FlV f] h b 0 (fun r h' => r = .tup [OctV (oneB f).1, IntV (oneB f).2] ∧ h' = h) := by
  refine ACalls.enter Tryd.func16 rfl (by simp [Tryd.ntmps16]) (fun ι w hn H => ?_)
  refine Rk ?_
  refine AWP.seq ?_
  cases c1 : mayF f
  · refine Rg (fun E K hE hK => ?_)
    refine Us (rMayF_ok f hn0 _ _) body_30 ?_
    refine Evf @c1 ?_
    refine hK _ _ _ ?_; clear hE hK K E
    refine Bt ?_
    refine Rk ?_
    refine AWP.ret ?_
    refine Ev ?_
    exact Ends.pure hn H Ou (r0 := .tup [.one (.p (.v (.slice none 0 0))), IntV 1]) (by rw [show Tryd.f16.results.toList = [.tmp 2, .tmp 3] from rfl]; exact Er) (frz_tup2 (.one (frz_nil 1)) (.v _)) ⟨by unfold oneB; rw [checkT_one, c1]; rfl, rfl⟩
  have hone : oneB f = (fileB f, 0) := by unfold oneB; rw [checkT_one, c1]; rfl
  obtain ⟨f1, f2, f3, f4, _⟩ := mayF_bd c1
  have hk := keyR_bd f.rank
  have wn : IntKind.u64.wrap (f.name.length : Int) = ((f.name.length : Nat) : Int) := by rw [wrap_u64]; omega
  have ws : IntKind.u64.wrap f.sum = ((f.sum.toNat : Nat) : Int) := by rw [wrap_u64]; omega
  have w1 : IntKind.u64.wrap f.blk = ((f.blk.toNat : Nat) : Int) := by rw [wrap_u64]; omega
  have w2 : IntKind.u64.wrap f.frm = ((f.frm.toNat : Nat) : Int) := by rw [wrap_u64]; omega
  have w3 : IntKind.u64.wrap f.len = ((f.len.toNat : Nat) : Int) := by rw [wrap_u64]; omega
  have hk' : keyD f.rank = (((keyR f.rank).toNat : Nat) : Int) := by rw [← key_eq _ hr]; omega
  have sz := mkS_size f.name
  refine Rg (fun E K hE hK => ?_)
  refine Us (rMayF_ok f hn0 _ _) body_30 ?_
  refine Evf @c1 ?_
  refine hK _ _ _ ?_; clear hE hK K E
  refine Bs ?_
  refine Re [b + 1] (jn2 @sz @wn) (fun K hK => ?_)
  refine CallD.use (rPut_ok f.name.length 1 (by omega) (by decide) _ _) body_29 ?_
  rintro _ _ ⟨ver1, cap1, T1, g1, g2, g3, rfl, rfl⟩
  refine ⟨(sub_delH _ _).updN (delH_same _ _), ?_⟩
  have hne : ¬ b = b + 1 := by omega
  have hne' : ¬ b + 1 = b := by omega
  refine Evf (jn3 @hne @hne' @delH_lit) ?_
  refine BiD.of ?_
  refine append_oct (y := f.name) (OctRow.of (upd_same _ _ _) g2 g3) ty_isIntT_9 (by simp only [srcA, if_true, mkS_size]; rfl) (by simp only [leB_len]; omega) (by omega) (fun cap2 T2 q1 q2 => ?_)
  refine ⟨((sub_delH _ _).updN (delH_same _ _)).updN (delH_same _ _), ?_⟩
  refine Evf (jn3 @hne @hne' @delH_lit) ?_
  refine hK _ _ _ ?_; clear hK K
  rw [show (leB 1 f.name.length).length + f.name.length = (leB 1 f.name.length ++ f.name).length by simp only [List.length_append]]
  obtain ⟨s1, hs1⟩ : ∃ s1, s1 = leB 1 f.name.length ++ f.name := ⟨_, rfl⟩
  rw [← hs1]
  have hs1l : s1.length ≤ 10000 := by rw [hs1]; simp only [List.length_append, leB_len]; omega
  rw [show (leB 1 f.name.length).length + f.name.length = s1.length by rw [hs1, List.length_append]] at q1
  refine Rgf @hne (fun E K hE hK => ?_)
  refine Us (rKeyD_ok f.rank _ _) body_31 ?_
  refine Evf @hk' ?_
  refine CallR.use (rPut_ok (keyR f.rank).toNat 8 (by rw [pow8]; omega) (by decide) _ _) body_29 ?_
  rintro _ _ ⟨vp3, cp3, Tp3, p1, p2, p3, rfl, rfl⟩
  refine Ev ?_
  refine BiR.of ?_
  rw [List.length_map] at p1 p2
  refine append_oct (y := leB 8 (keyR f.rank).toNat) (m := s1) ⟨_, by exact Er, q1, q2⟩ ty_isIntT_25 (srcA_oct _ (by exact Er)) (by omega) (by simp only [leB_len]; omega) (fun cap3 T3 q1 q2 => ?_)
  refine Ev ?_
  refine hK _ _ _ ?_; clear hE hK K E
  rw [show s1.length + (leB 8 (keyR f.rank).toNat).length = (s1 ++ leB 8 (keyR f.rank).toNat).length by simp only [List.length_append]] at q1 ⊢
  obtain ⟨s2, hs2⟩ : ∃ s2, s2 = s1 ++ leB 8 (keyR f.rank).toNat := ⟨_, rfl⟩
  rw [← hs2] at q1 ⊢
  have hs2l : s2.length ≤ 10300 := by rw [hs2]; simp only [List.length_append, leB_len]; omega
  refine Rgf @ws (fun E K hE hK => ?_)
  refine CallR.use (rPut_ok f.sum.toNat 4 (by rw [pow8]; omega) (by decide) _ _) body_29 ?_
  rintro _ _ ⟨vp4, cp4, Tp4, p1, p2, p3, rfl, rfl⟩
  refine Ev ?_
  refine BiR.of ?_
  rw [List.length_map] at p1 p2
  refine append_oct (y := leB 4 f.sum.toNat) (m := s2) ⟨_, by exact Er, q1, q2⟩ ty_isIntT_25 (srcA_oct _ (by exact Er)) (by omega) (by simp only [leB_len]; omega) (fun cap4 T4 q1 q2 => ?_)
  refine Ev ?_
  refine hK _ _ _ ?_; clear hE hK K E
  rw [show s2.length + (leB 4 f.sum.toNat).length = (s2 ++ leB 4 f.sum.toNat).length by simp only [List.length_append]] at q1 ⊢
  obtain ⟨s3, hs3⟩ : ∃ s3, s3 = s2 ++ leB 4 f.sum.toNat := ⟨_, rfl⟩
  rw [← hs3] at q1 ⊢
  have hs3l : s3.length ≤ 10400 := by rw [hs3]; simp only [List.length_append, leB_len]; omega
  refine Rgf @w1 (fun E K hE hK => ?_)
  refine CallR.use (rPut_ok f.blk.toNat 2 (by rw [pow8]; omega) (by decide) _ _) body_29 ?_
  rintro _ _ ⟨vp5, cp5, Tp5, p1, p2, p3, rfl, rfl⟩
  refine Ev ?_
  refine BiR.of ?_
  rw [List.length_map] at p1 p2
  refine append_oct (y := leB 2 f.blk.toNat) (m := s3) ⟨_, by exact Er, q1, q2⟩ ty_isIntT_25 (srcA_oct _ (by exact Er)) (by omega) (by simp only [leB_len]; omega) (fun cap5 T5 q1 q2 => ?_)
  refine Ev ?_
  refine hK _ _ _ ?_; clear hE hK K E
  rw [show s3.length + (leB 2 f.blk.toNat).length = (s3 ++ leB 2 f.blk.toNat).length by simp only [List.length_append]] at q1 ⊢
  obtain ⟨s4, hs4⟩ : ∃ s4, s4 = s3 ++ leB 2 f.blk.toNat := ⟨_, rfl⟩
  rw [← hs4] at q1 ⊢
  have hs4l : s4.length ≤ 10500 := by rw [hs4]; simp only [List.length_append, leB_len]; omega
  refine Rgf @w2 (fun E K hE hK => ?_)
  refine CallR.use (rPut_ok f.frm.toNat 3 (by rw [pow8]; omega) (by decide) _ _) body_29 ?_
  rintro _ _ ⟨vp6, cp6, Tp6, p1, p2, p3, rfl, rfl⟩
  refine Ev ?_
  refine BiR.of ?_
  rw [List.length_map] at p1 p2
  refine append_oct (y := leB 3 f.frm.toNat) (m := s4) ⟨_, by exact Er, q1, q2⟩ ty_isIntT_25 (srcA_oct _ (by exact Er)) (by omega) (by simp only [leB_len]; omega) (fun cap6 T6 q1 q2 => ?_)
  refine Ev ?_
  refine hK _ _ _ ?_; clear hE hK K E
  rw [show s4.length + (leB 3 f.frm.toNat).length = (s4 ++ leB 3 f.frm.toNat).length by simp only [List.length_append]] at q1 ⊢
  obtain ⟨s5, hs5⟩ : ∃ s5, s5 = s4 ++ leB 3 f.frm.toNat := ⟨_, rfl⟩
  rw [← hs5] at q1 ⊢
  have hs5l : s5.length ≤ 10600 := by rw [hs5]; simp only [List.length_append, leB_len]; omega
  refine Rgf @w3 (fun E K hE hK => ?_)
  refine CallR.use (rPut_ok f.len.toNat 3 (by rw [pow8]; omega) (by decide) _ _) body_29 ?_
  rintro _ _ ⟨vp7, cp7, Tp7, p1, p2, p3, rfl, rfl⟩
  refine Ev ?_
  refine BiR.of ?_
  rw [List.length_map] at p1 p2
  refine append_oct (y := leB 3 f.len.toNat) (m := s5) ⟨_, by exact Er, q1, q2⟩ ty_isIntT_25 (srcA_oct _ (by exact Er)) (by omega) (by simp only [leB_len]; omega) (fun cap7 T7 q1 q2 => ?_)
  refine Ev ?_
  refine hK _ _ _ ?_; clear hE hK K E
  rw [show s5.length + (leB 3 f.len.toNat).length = (s5 ++ leB 3 f.len.toNat).length by simp only [List.length_append]] at q1 ⊢
  obtain ⟨s6, hs6⟩ : ∃ s6, s6 = s5 ++ leB 3 f.len.toNat := ⟨_, rfl⟩
  rw [← hs6] at q1 ⊢
  have hs6l : s6.length ≤ 10700 := by rw [hs6]; simp only [List.length_append, leB_len]; omega
  have he : s6 = fileB f := by rw [hs6, hs5, hs4, hs3, hs2, hs1]; simp only [fileB, List.append_assoc]
  rw [he] at q1 ⊢
  refine AWP.frz 2 (cap := cap7) (len := (fileB f).length) (off := 0) (id := b + 1) 1 ((fileB f).map encO) (by exact Er) (by exact Er) rfl (by rw [List.length_map]) (okEs_oct _).len (row_cells (okEs_oct _) _ _) ?_
  refine AWP.ret ?_
  refine Ev ?_
  exact Ends.pure hn H (fun id (hid : id < b) => by simp -implicitDefEqProofs only [go_sem, ↓reduceIte, Nat.reduceEqDiff, Nat.reduceAdd, Nat.reduceLT, Nat.reduceLeDiff, reduceCtorEq, Int.toNat_natCast, delH, show ¬ id = b by omega, show ¬ id = b + 1 by omega, show ¬ id = b + 2 by omega, show ¬ id = b + 3 by omega, show ¬ id = b + 4 by omega, show ¬ id = b + 5 by omega, show ¬ id = b + 6 by omega]) (r0 := .tup [OctV (fileB f), IntV 0]) (by rw [show Tryd.f16.results.toList = [.tmp 2, .tmp 3] from rfl]; exact Er) (frz_tup2 (frzV.p _) (.v _)) ⟨by rw [hone], rfl⟩

def rbI (l : List Fl) (h : Heap) (b i : Nat) (st : St) : Prop :=
  ∃ ver cap, OctRow st.h b ver cap (leB 2 l.length ++ filesB (l.take i)) ∧ (∀ x, x < b → st.h x = h x) ∧ st.t 4 = .one (.win b ver 0 (leB 2 l.length ++ filesB (l.take i)).length cap) ∧ st.t 16 = FlsV l ∧ st.t 17 = IntV l.length ∧ st.t 18 = IntV (i : Nat)

theorem srcA_frz (h : Heap) (y : S) : srcA h 1 (OctV y) = some (y.length, y.map fun c => .p (.v (.int .u8 (c.toNat : Int)))) := by
  simp only [srcA, if_true, List.length_map, flat_oct]

theorem refBytes_ok (l : List Fl) (hr : ∀ f ∈ l, f.rank < 18446744073709551616) (hs : ∀ f ∈ l, 0 ≤ f.sum ∧ f.sum < 4294967296) (hnm : ∀ f ∈ l, f.name.length ≤ 1000) (hl : l.length ≤ 1000000) (h : Heap) (b : Nat) :
    ACalls Tryd.prog 15 [FlsV l] h b 0 (fun r h' => r = .tup [OctV (bytesR l).1, IntV (bytesR l).2] ∧ h' = h) := by
  refine ACalls.enter Tryd.func15 rfl (by simp [Tryd.ntmps15]) (fun ι w hn H => ?_)
  have hlow := H.lowCells
  have hlm : (l.map encF).length = l.length := List.length_map _
  refine Rk ?_
  refine AWP.seq ?_
  by_cases c1 : checkT l = 0
  case neg =>
    have c2 : checkT l = 1 := checkT_one_of c1
    refine Rg (fun E K hE hK => ?_)
    refine Us (rCheckT_ok l hl hnm _ _) body_28 ?_
    refine Evf @c2 ?_
    refine hK _ _ _ ?_; clear hE hK K E
    refine Bt ?_
    refine Rk ?_
    refine AWP.ret ?_
    refine Ev ?_
    exact Ends.pure hn H (fun _ _ => rfl) (r0 := .tup [.one (.p (.v (.slice none 0 0))), IntV 1]) (by rw [show Tryd.f15.results.toList = [.tmp 2, .tmp 3] from rfl]; exact Er) (frz_tup2 (.one (frz_nil 1)) (.v _)) ⟨by unfold bytesR; rw [if_neg c1, c2]; rfl, rfl⟩
  obtain ⟨hbd, h256⟩ := check_bd c1 hs
  have wn : IntKind.u64.wrap (l.length : Int) = ((l.length : Nat) : Int) := by rw [wrap_u64]; omega
  refine Rg (fun E K hE hK => ?_)
  refine Us (rCheckT_ok l hl hnm _ _) body_28 ?_
  refine Evf @c1 ?_
  refine hK _ _ _ ?_; clear hE hK K E
  refine Bs ?_
  refine Rgf (jn2 @hlm @wn) (fun E K hE hK => ?_)
  refine CallR.use (rPut_ok l.length 2 (by rw [pow8]; omega) (by decide) _ _) body_29 ?_
  rintro _ _ ⟨ver, cap, T, g1, g2, g3, rfl, rfl⟩
  refine Ev ?_
  refine hK _ _ _ ?_; clear hE hK K E
  refine AWP.seq ?_
  refine Rkf @hlm ?_
  refine AWP.block ?_
  refine AWP.loopM 1 (fun m st => ∃ i, i ≤ l.length ∧ m = l.length - i ∧ rbI l h b i st) l.length rfl ⟨0, Nat.zero_le _, rfl, ver, cap, by simp only [List.take_zero, filesB, List.append_nil]; exact OctRow.of (upd_same _ _ _) g2 g3, Ou, by simp only [List.take_zero, filesB, List.append_nil]; exact Er, by exact Er, by exact Er, by exact Er⟩ ?_
  rintro m ⟨t, hh, n⟩ ⟨i, hi, rfl, ver, cap, hrw, ho, e5, e17, e18, e19⟩ hn1
  simp only at hrw ho e5 e17 e18 e19 hn1
  subst hn1
  refine Rkf (jn2 @e18 @e19) ?_
  refine AWP.seq ?_
  by_cases hlt : (i : Int) < l.length
  · have hw1 : IntKind.i64.wrap ((i : Int) + 1) = ((i + 1 : Nat) : Int) := by rw [wrap_i64 (by omega) (by omega)]; rfl
    have hi2 : i < l.length := by omega
    have hge := encF_getD l i hi2
    obtain ⟨f, hf⟩ : ∃ f, l[i] = f := ⟨_, rfl⟩
    have hfm : f ∈ l := by rw [← hf]; exact List.getElem_mem hi2
    rw [hf] at hge
    have hsn := filesB_snoc l i hi2
    rw [hf] at hsn
    have hsl : (leB 2 l.length ++ filesB (l.take i)).length ≤ 100000 := by
      have h1 := filesB_len (l := l.take i) (fun x hx => hbd x (List.mem_of_mem_take hx))
      rw [List.length_take] at h1
      simp only [List.length_append, leB_len]; omega
    have he : leB 2 l.length ++ filesB (l.take (i + 1)) = (leB 2 l.length ++ filesB (l.take i)) ++ fileB f := by rw [hsn, List.append_assoc]
    have hone : oneB f = (fileB f, 0) := by unfold oneB; rw [checkT_one, (hbd f hfm).may]; rfl
    have hfl := fileB_len f
    have hnf := hnm f hfm
    obtain ⟨p, hp⟩ : ∃ p, p = leB 2 l.length ++ filesB (l.take i) := ⟨_, rfl⟩
    rw [← hp] at hrw e5 hsl he
    refine Btf @hlt ?_
    refine AWP.skip ?_
    refine Ev ?_
    refine AWP.seq ?_
    refine AWP.block ?_
    refine Rgf (jn5 @e17 @e19 @hlm @hlt @hge) (fun E K hE hK => ?_)
    refine ⟨by omega, ?_⟩
    refine hK _ _ _ ?_; clear hE hK K E
    refine Rg (fun E K hE hK => ?_)
    refine Us (refOne_ok f (hr f hfm) (hs f hfm) (hnm f hfm) _ _) body_16 ?_
    refine Evf @hone ?_
    refine hK _ _ _ ?_; clear hE hK K E
    refine Raf @e5 (fun E K hE hK => ?_)
    refine BiR.of ?_
    refine append_oct (y := fileB f) (m := p) (hrw.ne (by show b ≠ b + 1; omega)) ty_isIntT_25 (srcA_frz _ _) (by omega) (by omega) (fun cap' T' q1 q2 => ?_)
    refine Ev ?_
    refine hK _ _ _ ?_; clear hE hK K E
    refine Ev ?_
    refine Raf (jn2 @e19 @hw1) (fun E K hE hK => ?_); refine hK _ _ _ ?_; clear hE hK K E
    rw [← he]
    refine ⟨(by decide : 1 ≤ 2), l.length - (i + 1), by omega, i + 1, by omega, rfl, ver + 1, cap', OctRow.cut ⟨T', by exact Er, by rw [he, List.length_append]; exact q1, q2⟩ (Nat.lt_succ_self _), cutH_outer (Nat.le_succ _) (Ouf @ho) hlow, by rw [he, List.length_append]; refine Ev ?_; exact cutV_win (Nat.lt_succ_self _), by exact Ecf @e17, by exact Ecf @e18, by exact Er⟩
  · refine Bff @hlt ?_
    refine AWP.exit ?_
    refine Ev ?_
    have hil : i = l.length := by omega
    subst hil
    rw [List.take_length] at hrw e5
    have hbr : bytesR l = (tableB l, 0) := by unfold bytesR; rw [if_pos c1]
    obtain ⟨T2, hb, h3, h4⟩ := hrw
    refine Rkf @e5 ?_
    refine AWP.frz 2 (cap := cap) (len := (tableB l).length) (off := 0) (id := b) 1 ((tableB l).map encO) (by exact Er) hb rfl (by rw [List.length_map]) (okEs_oct _).len (row_cells (okEs_oct _) ver _) ?_
    refine AWP.ret ?_
    refine Ev ?_
    exact Ends.pure hn H (fun id (hid : id < b) => by simp -implicitDefEqProofs only [go_sem, ↓reduceIte, Nat.reduceEqDiff, Nat.reduceAdd, Nat.reduceLT, Nat.reduceLeDiff, reduceCtorEq, Int.toNat_natCast, delH, show ¬ id = b by omega]; exact ho id hid) (r0 := .tup [OctV (tableB l), IntV 0]) (by rw [show Tryd.f15.results.toList = [.tmp 2, .tmp 3] from rfl]; exact Er) (frz_tup2 (frzV.p _) (.v _)) ⟨by rw [hbr], rfl⟩

def longB (l : List Fl) : Int × Int := (((bytesR l).1.length : Nat), (bytesR l).2)
theorem refLong_ok (l : List Fl) (hr : ∀ f ∈ l, f.rank < 18446744073709551616) (hs : ∀ f ∈ l, 0 ≤ f.sum ∧ f.sum < 4294967296) (hnm : ∀ f ∈ l, f.name.length ≤ 1000) (hl : l.length ≤ 1000000) (h : Heap) (b : Nat) :
    ACalls Tryd.prog 18 [FlsV l] h b 0 (fun r h' => r = .tup [IntV (longB l).1, IntV (longB l).2] ∧ h' = h) := by
  refine ACalls.enter Tryd.func18 rfl (by simp [Tryd.ntmps18]) (fun ι w hn H => ?_)
  have hlm : ((bytesR l).1.map encO).length = (bytesR l).1.length := List.length_map _
  refine Rk ?_
  refine Rg (fun E K hE hK => ?_)
  refine Us (refBytes_ok l hr hs hnm hl _ _) body_15 ?_
  refine hK _ _ _ ?_; clear hE hK K E
  refine Rkf @hlm ?_
  refine AWP.ret ?_
  exact Ends.pure hn H (fun _ _ => rfl) (r0 := .tup [IntV (longB l).1, IntV (longB l).2]) (by rw [show Tryd.f18.results.toList = [.tmp 2, .tmp 3] from rfl]; exact Er) (frz_tup2 (.v _) (.v _)) ⟨rfl, rfl⟩
end Go.Proofs.YthnhpbihgalgeaaDoor

namespace Go.Proofs.YthnhpbihgalgeaaDoor
set_option linter.unusedSimpArgs false
set_option linter.unusedVariables false
set_option linter.unnecessarySimpa false
open Go Am
set_option maxRecDepth 100000

def rfI (s : S) (h : Heap) (b p : Nat) (m : List Fl) (st : St) : Prop :=
  ∃ ver cap, FlRow st.h b ver cap m ∧ (∀ x, x < b → st.h x = h x) ∧ st.t 0 = OctV s ∧ st.t 2 = .one (.p (.v (.slice none 0 0))) ∧ st.t 4 = .one (.win b ver 0 m.length cap) ∧ st.t 5 = IntV (p : Nat)

theorem refFrom_ok (s : S) (hs : s.length ≤ maxLen) (h : Heap) (b : Nat) : ACalls Tryd.prog 19 [OctV s] h b 0 (fun r h' => r = .tup [FlsV (refFrom s).1, IntV (refFrom s).2] ∧ h' = h) := by
  refine ACalls.enter Tryd.func19 rfl (by simp [Tryd.ntmps19]) (fun ι w hn H => ?_)
  have hlow := H.lowCells
  have hlm : (s.map encO).length = s.length := List.length_map _
  have ho8 : octT Tryd.prog 25 9 = true := by kernel_rfl
  have fin : ∀ (t : Nat → AV) (hh : Heap) (n : Nat) (e : Int), t 2 = .one (.p (.v (.slice none 0 0))) → t 3 = IntV e → (∀ id, id < b → hh id = h id) → ([], e) = refFrom s → Am.Ends Tryd.prog ⟨Tryd.f19.ntmps, b, ι, h, w, x0⟩ Tryd.f19 0 (fun r h' => r = .tup [FlsV (refFrom s).1, IntV (refFrom s).2] ∧ h' = h) ⟨t, hh, n⟩ := by
    intro t hh n e ht ht2 ho hv
    exact Ends.pure hn H ho (r0 := .tup [.one (.p (.v (.slice none 0 0))), IntV e]) (by rw [show Tryd.f19.results.toList = [.tmp 2, .tmp 3] from rfl]; exact Ecf (jn2 @ht @ht2)) (frz_tup2 (.one (frz_nil 6)) (.v _)) ⟨by rw [← hv]; rfl, rfl⟩
  have fin2 : ∀ (t : Nat → AV) (hh : Heap) (n : Nat) (m : List Fl), t 2 = FlsV m → t 3 = IntV 0 → (∀ id, id < b → hh id = h id) → (m, 0) = refFrom s → Am.Ends Tryd.prog ⟨Tryd.f19.ntmps, b, ι, h, w, x0⟩ Tryd.f19 0 (fun r h' => r = .tup [FlsV (refFrom s).1, IntV (refFrom s).2] ∧ h' = h) ⟨t, hh, n⟩ := by
    intro t hh n m ht ht2 ho hv
    exact Ends.pure hn H ho (r0 := .tup [FlsV m, IntV 0]) (by rw [show Tryd.f19.results.toList = [.tmp 2, .tmp 3] from rfl]; exact Ecf (jn2 @ht @ht2)) (frz_tup2 (frzV.p _) (.v _)) ⟨by rw [← hv], rfl⟩
  refine Rk ?_
  refine AWP.seq ?_
  by_cases c1 : (65536 : Int) < s.length
  · refine Rkf (jn2 @hlm @c1) ?_
    refine Bt ?_
    refine Rk ?_
    refine AWP.ret ?_
    refine Ev ?_
    exact fin _ _ _ 3 (by exact Er) (by exact Er) (fun _ _ => rfl) (by unfold refFrom; rw [if_pos (by omega)])
  refine Rkf (jn2 @hlm @c1) ?_
  refine Bs ?_
  refine AWP.seq ?_
  by_cases c2 : (s.length : Int) < 2
  · refine Rkf (jn2 @hlm @c2) ?_
    refine Bt ?_
    refine Rk ?_
    refine AWP.ret ?_
    refine Ev ?_
    exact fin _ _ _ 2 (by exact Er) (by exact Er) (fun _ _ => rfl) (by unfold refFrom; rw [if_neg (by omega), if_pos (by omega)])
  refine Rkf (jn2 @hlm @c2) ?_
  refine Bs ?_
  have hrf : refFrom s = match readA (s.drop 2) with
    | none => ([], 2)
    | some l => if bytesR l = (s, 0) then (l, 0) else ([], 2) := by unfold refFrom; rw [if_neg (by omega), if_neg (by omega)]; try (cases readA (s.drop 2) <;> rfl)
  refine Rk ?_
  refine AWP.virt 4 (by exact Er) ?_
  refine Ev ?_
  refine AWP.seq ?_
  refine Rk ?_
  refine AWP.block ?_
  refine AWP.loopM 1 (fun k st => ∃ p m, p ≤ s.length ∧ k = s.length - p ∧ readA (s.drop 2) = (readA (s.drop p)).map (m ++ ·) ∧ m.length ≤ p ∧ (∀ f ∈ m, f.name.length ≤ 1000) ∧ rfI s h b p m st) (s.length - 2) rfl ⟨2, [], by omega, rfl, by simp, by simp, by simp, 0, 0, ⟨[], by exact Er, rfl, rfl⟩, Ou, by exact Er, by exact Er, by exact Er, by exact Er⟩ ?_
  rintro _ ⟨t, hh, n⟩ ⟨p, m, hp, rfl, hre, hmp, hmn, ver, cap, hr, ho, e0, e2, e4, e5⟩ hn1
  simp only at hr ho e0 e2 e4 e5 hn1
  subst hn1
  refine AWP.seq ?_
  by_cases hlt : (p : Int) < s.length
  · have hp2 : p < s.length := by omega
    refine Rkf (jn4 @e0 @e5 @hlm @hlt) ?_
    refine Bt ?_
    refine AWP.skip ?_
    refine Ev ?_
    refine AWP.block ?_
    have hge := encO_getD s p hp2
    have hdp := List.drop_eq_getElem_cons hp2
    have hcl := s[p].toNat_lt
    have hc8 : IntKind.i64.wrap ((s[p].toNat : Nat) : Int) = ((s[p].toNat : Nat) : Int) := wrap_i64 (by omega) (by omega)
    generalize s[p] = c at hge hdp hcl hc8
    refine Rgf (jn6 @e0 @e5 @hlm @hlt @hge @hc8) (fun E K hE hK => ?_)
    refine ⟨by omega, ?_⟩
    refine hK _ _ _ ?_; clear hE hK K E
    refine AWP.seq ?_
    have k1 : IntKind.i64.wrap ((s.length : Int) - (p : Int)) = (s.length : Int) - p := wrap_i64 (by omega) (by omega)
    have k2 : IntKind.i64.wrap (((c.toNat : Nat) : Int) + 21) = ((c.toNat : Nat) : Int) + 21 := wrap_i64 (by omega) (by omega)
    have hul : (s.drop p).length = s.length - p := List.length_drop
    by_cases c3 : (s.length : Int) - p < ((c.toNat : Nat) : Int) + 21
    · have hrn : readF (s.drop p) = none := by
        rw [hdp]; refine readF_short ?_
        rw [← hdp, hul]; omega
      have hra : readA (s.drop 2) = none := by rw [hre, readA_none (by rw [hdp]; simp) hrn]; rfl
      refine Rkf (jn6 @e0 @e5 @hlm @k1 @k2 @c3) ?_
      refine Bt ?_
      refine Rk ?_
      refine AWP.ret ?_
      refine Ev ?_
      exact fin _ _ _ 2 (by exact Er) (by exact Er) ho (by rw [hrf, hra])
    refine Rkf (jn6 @e0 @e5 @hlm @k1 @k2 @c3) ?_
    refine Bs ?_
    obtain ⟨q, hq⟩ : ∃ q, q = p + 1 + c.toNat := ⟨_, rfl⟩
    have k3 : IntKind.i64.wrap ((p : Int) + 1) = ((p + 1 : Nat) : Int) := by rw [wrap_i64 (by omega) (by omega)]; rfl
    have k4 : IntKind.i64.wrap (((p + 1 : Nat) : Int) + ((c.toNat : Nat) : Int)) = ((q : Nat) : Int) := by rw [wrap_i64 (by omega) (by omega)]; omega
    have k5 : q - (p + 1) = c.toNat := by omega
    have k6 : IntKind.i64.wrap (1 + ((c.toNat : Nat) : Int)) = 1 + ((c.toNat : Nat) : Int) := wrap_i64 (by omega) (by omega)
    have k7 : IntKind.i64.wrap ((p : Int) + (1 + ((c.toNat : Nat) : Int))) = ((q : Nat) : Int) := by rw [wrap_i64 (by omega) (by omega)]; omega
    have wq : ∀ j : Nat, j ≤ 20 → IntKind.i64.wrap ((q : Int) + (j : Int)) = ((q + j : Nat) : Int) := fun j hj => by rw [wrap_i64 (by omega) (by omega)]; omega
    have k8 : IntKind.i64.wrap ((q : Int) + 8) = ((q + 8 : Nat) : Int) := wq 8 (by decide)
    have k12 : IntKind.i64.wrap ((q : Int) + 12) = ((q + 12 : Nat) : Int) := wq 12 (by decide)
    have k14 : IntKind.i64.wrap ((q : Int) + 14) = ((q + 14 : Nat) : Int) := wq 14 (by decide)
    have k17 : IntKind.i64.wrap ((q : Int) + 17) = ((q + 17 : Nat) : Int) := wq 17 (by decide)
    have k20 : IntKind.i64.wrap ((q : Int) + 20) = ((q + 20 : Nat) : Int) := wq 20 (by decide)
    have oe := fun x : S => octE_map x
    refine Rgf (jn4 @e0 @e5 @hlm (jn7 @k3 @k4 @k5 @map_drop_oct @map_take_oct @oe @ho8)) (fun E K hE hK => ?_)
    refine ⟨by omega, by omega, ?_⟩
    refine hK _ _ _ ?_; clear hE hK K E
    have d8 : q + 8 - q = 8 := by omega
    have d12 : q + 12 - (q + 8) = 4 := by omega
    have d14 : q + 14 - (q + 12) = 2 := by omega
    have d17 : q + 17 - (q + 14) = 3 := by omega
    have d20 : q + 20 - (q + 17) = 3 := by omega
    have tl : ∀ i j : Nat, ((s.drop i).take j).length ≤ j := fun i j => by rw [List.length_take]; omega
    have tb : ∀ i j : Nat, unB ((s.drop i).take j) < 256 ^ j := fun i j => Nat.lt_of_lt_of_le (unB_lt _) (Nat.pow_le_pow_right (by decide) (tl i j))
    have b8 := tb q 8
    have b12 := tb (q + 8) 4
    have b14 := tb (q + 12) 2
    have b17 := tb (q + 14) 3
    have b20 := tb (q + 17) 3
    have hrl : readF (s.drop p) = if (ofR (unB ((s.drop q).take 8))).2 ≠ 0 then none else
      some (⟨(s.drop (p + 1)).take c.toNat, (ofR (unB ((s.drop q).take 8))).1, unB ((s.drop (q + 8)).take 4), unB ((s.drop (q + 12)).take 2), unB ((s.drop (q + 14)).take 3), unB ((s.drop (q + 17)).take 3)⟩, s.drop (q + 20)) := by
      rw [hdp, readF_long (by rw [← hdp, hul]; omega)]
      simp only [List.drop_drop, ← Nat.add_assoc, ← hq]
    have hql : q + 20 ≤ s.length := by omega
    have hnl : ((s.drop (p + 1)).take c.toNat).length ≤ 1000 := Nat.le_trans (tl _ _) (by omega)
    generalize (s.drop (p + 1)).take c.toNat = nm at hrl hnl ⊢
    refine Rkf (jn4 @e0 @e5 @k6 @k7) ?_
    refine Rgf (jn6 @e0 @hlm @k8 @d8 @map_drop_oct @map_take_oct) (fun E K hE hK => ?_)
    refine ⟨by omega, by omega, ?_⟩
    refine Us (rTake_ok ((s.drop q).take 8) (tl _ _) _ _) body_33 ?_
    refine Us (rOf_ok (unB ((s.drop q).take 8)) (by rw [← pow8]; exact b8) _ _) body_32 ?_
    refine hK _ _ _ ?_; clear hE hK K E
    obtain ⟨x8, hx8⟩ : ∃ x, x = unB ((s.drop q).take 8) := ⟨_, rfl⟩
    obtain ⟨x12, hx12⟩ : ∃ x, x = unB ((s.drop (q + 8)).take 4) := ⟨_, rfl⟩
    obtain ⟨x14, hx14⟩ : ∃ x, x = unB ((s.drop (q + 12)).take 2) := ⟨_, rfl⟩
    obtain ⟨x17, hx17⟩ : ∃ x, x = unB ((s.drop (q + 14)).take 3) := ⟨_, rfl⟩
    obtain ⟨x20, hx20⟩ : ∃ x, x = unB ((s.drop (q + 17)).take 3) := ⟨_, rfl⟩
    rw [← hx8, ← hx12, ← hx14, ← hx17, ← hx20] at hrl
    rw [← hx12] at b12
    rw [← hx14] at b14
    rw [← hx17] at b17
    rw [← hx20] at b20
    rw [← hx8]
    have hsu : s.drop p ≠ [] := by rw [hdp]; simp
    refine AWP.seq ?_
    by_cases c4 : (ofR x8).2 = 0
    case neg =>
      rw [if_pos c4] at hrl
      have hra : readA (s.drop 2) = none := by rw [hre, readA_none hsu hrl]; rfl
      refine Rkf @c4 ?_
      refine Bt ?_
      refine Rk ?_
      refine AWP.ret ?_
      refine Ev ?_
      exact fin _ _ _ 2 (by exact Er) (by exact Er) (Ouf @ho) (by rw [hrf, hra])
    rw [if_neg (by simp [c4])] at hrl
    have v12 : IntKind.u32.wrap ((x12 : Nat) : Int) = ((x12 : Nat) : Int) := by rw [wrap_u32]; omega
    have v14 : IntKind.i64.wrap ((x14 : Nat) : Int) = ((x14 : Nat) : Int) := wrap_i64 (by omega) (by omega)
    have v17 : IntKind.i64.wrap ((x17 : Nat) : Int) = ((x17 : Nat) : Int) := wrap_i64 (by omega) (by omega)
    have v20 : IntKind.i64.wrap ((x20 : Nat) : Int) = ((x20 : Nat) : Int) := wrap_i64 (by omega) (by omega)
    refine Rkf @c4 ?_
    refine Bs ?_
    refine Rk ?_
    refine Rgf (jn7 @e0 @hlm @k8 @k12 @d12 @map_drop_oct @map_take_oct) (fun E K hE hK => ?_)
    refine ⟨by omega, by omega, ?_⟩
    refine Us (rTake_ok ((s.drop (q + 8)).take 4) (Nat.le_trans (tl _ _) (by decide)) _ _) body_33 ?_
    simp -implicitDefEqProofs only [go_sem, ↓reduceIte, Nat.reduceEqDiff, Nat.reduceAdd, Nat.reduceLT, Nat.reduceLeDiff, reduceCtorEq, Int.toNat_natCast, ← hx12, v12]
    refine hK _ _ _ ?_; clear hE hK K E
    refine Rgf (jn7 @e0 @hlm @k12 @k14 @d14 @map_drop_oct @map_take_oct) (fun E K hE hK => ?_)
    refine ⟨by omega, by omega, ?_⟩
    refine Us (rTake_ok ((s.drop (q + 12)).take 2) (Nat.le_trans (tl _ _) (by decide)) _ _) body_33 ?_
    simp -implicitDefEqProofs only [go_sem, ↓reduceIte, Nat.reduceEqDiff, Nat.reduceAdd, Nat.reduceLT, Nat.reduceLeDiff, reduceCtorEq, Int.toNat_natCast, ← hx14, v14]
    refine hK _ _ _ ?_; clear hE hK K E
    refine Rgf (jn7 @e0 @hlm @k14 @k17 @d17 @map_drop_oct @map_take_oct) (fun E K hE hK => ?_)
    refine ⟨by omega, by omega, ?_⟩
    refine Us (rTake_ok ((s.drop (q + 14)).take 3) (Nat.le_trans (tl _ _) (by decide)) _ _) body_33 ?_
    simp -implicitDefEqProofs only [go_sem, ↓reduceIte, Nat.reduceEqDiff, Nat.reduceAdd, Nat.reduceLT, Nat.reduceLeDiff, reduceCtorEq, Int.toNat_natCast, ← hx17, v17]
    refine hK _ _ _ ?_; clear hE hK K E
    refine Rgf (jn7 @e0 @hlm @k17 @k20 @d20 @map_drop_oct @map_take_oct) (fun E K hE hK => ?_)
    refine ⟨by omega, by omega, ?_⟩
    refine Us (rTake_ok ((s.drop (q + 17)).take 3) (Nat.le_trans (tl _ _) (by decide)) _ _) body_33 ?_
    simp -implicitDefEqProofs only [go_sem, ↓reduceIte, Nat.reduceEqDiff, Nat.reduceAdd, Nat.reduceLT, Nat.reduceLeDiff, reduceCtorEq, Int.toNat_natCast, ← hx20, v20]
    refine hK _ _ _ ?_; clear hE hK K E
    refine Rkf @k20 ?_
    obtain ⟨f, hf⟩ : ∃ f : Fl, f = ⟨nm, (ofR x8).1, x12, x14, x17, x20⟩ := ⟨_, rfl⟩
    rw [← hf] at hrl
    have hstep : readA (s.drop 2) = (readA (s.drop (q + 20))).map ((m ++ [f]) ++ ·) := by
      rw [hre, readA_some hrl, Option.map_map]
      congr 1
      funext x
      simp
    have hrx := hr
    obtain ⟨T0, hrb, _, _⟩ := hrx
    have hml : (m ++ [f]).length = m.length + 1 := by simp
    have hmx : m.length ≤ 100000 := by omega
    refine AWP.reg (by kernel_rfl) (fun E K hE hK => ?_); simp -implicitDefEqProofs only [go_sem, ↓reduceIte, Nat.reduceEqDiff, Nat.reduceAdd, Nat.reduceLT, Nat.reduceLeDiff, reduceCtorEq, Int.toNat_natCast, e4, hrb, rowB]
    refine BiR.of ?_
    refine append_fl (f := f) ((hr.ne (by show b ≠ b + 1; omega)).ne (by show b ≠ b + 2; omega)) (by exact Erf @hf) hmx (fun cap' T' q1 q2 => ?_)
    refine Ev ?_
    refine hK _ _ _ ?_; clear hE hK K E
    refine ⟨(by decide : 1 ≤ 3), s.length - (q + 20), by omega, q + 20, m ++ [f], by omega, rfl, hstep, by rw [hml]; omega, fun x hx => ?_, ver + 1, cap', FlRow.cut ⟨T', by exact Er, by rw [hml]; exact q1, q2⟩ (Nat.lt_succ_self _), cutH_outer (Nat.le_succ _) (Ouf @ho) hlow, by exact Ecf @e0, by exact Ecf @e2, by rw [hml]; refine Ev ?_; exact cutV_win (Nat.lt_succ_self _), by exact Er⟩
    rcases List.mem_append.1 hx with hx | hx
    · exact hmn x hx
    · rw [List.mem_singleton.1 hx, hf]; exact hnl
  · refine Rkf (jn4 @e0 @e5 @hlm @hlt) ?_
    refine Bf ?_
    refine AWP.exit ?_
    refine Ev ?_
    have hpl : p = s.length := by omega
    subst hpl
    have hra : readA (s.drop 2) = some m := by rw [hre, List.drop_length, readA_nil]; simp
    obtain ⟨T, hb, h3, h4⟩ := hr
    have bd := readA_bd _ (Nat.le_refl _) hra
    rw [hra] at hrf
    simp only at hrf
    refine AWP.frz 4 (cap := cap) (len := m.length) (off := 0) (id := b) 6 (m.map encF) (by exact Ecf @e4) hb rfl (by rw [List.length_map]) (okEs_fl _).len (row_cells (okEs_fl _) ver _) ?_
    have ho' : ∀ id, id < b → delH hh b id = h id := fun id (hid : id < b) => by simp -implicitDefEqProofs only [go_sem, ↓reduceIte, Nat.reduceEqDiff, Nat.reduceAdd, Nat.reduceLT, Nat.reduceLeDiff, reduceCtorEq, Int.toNat_natCast, delH, show ¬ id = b by omega]; exact ho id hid
    generalize delH hh b = hz at ho'
    have oe := fun x : S => octE_map x
    refine Rg (fun E K hE hK => ?_)
    refine Us (refBytes_ok m (fun f hf => (bd f hf).2) (fun f hf => (bd f hf).1) hmn (by omega) _ _) body_15 ?_
    refine hK _ _ _ ?_; clear hE hK K E
    refine AWP.seq ?_
    by_cases c5 : checkT m = 0
    case neg =>
      have hbr : bytesR m = ([], checkT m) := by unfold bytesR; rw [if_neg c5]
      rw [if_neg (by rw [hbr]; intro e; exact c5 (Prod.mk.inj e).2)] at hrf
      refine Rkf (jn2 @hbr @c5) ?_
      refine Bt ?_
      refine Rk ?_
      refine AWP.ret ?_
      refine Ev ?_
      exact fin _ _ _ 2 (by exact Er) (by exact Er) ho' hrf.symm
    have hbr : bytesR m = (tableB m, 0) := by unfold bytesR; rw [if_pos c5]
    by_cases c6 : tableB m = s
    · rw [if_pos (by rw [hbr, c6])] at hrf
      have hd : decide (tableB m = s) = true := decide_eq_true c6
      refine Rkf (jn5 @hbr @e0 @oe @ho8 @c6) ?_
      refine Bs ?_
      refine Rkf @e4 ?_
      refine AWP.ret ?_
      exact fin2 _ _ _ m (by exact Er) (by exact Er) ho' hrf.symm
    · rw [if_neg (by rw [hbr]; intro e; exact c6 (Prod.mk.inj e).1)] at hrf
      have hd : decide (tableB m = s) = false := decide_eq_false c6
      refine Rkf (jn5 @hbr @e0 @oe @ho8 @hd) ?_
      refine Bt ?_
      refine Rk ?_
      refine AWP.ret ?_
      refine Ev ?_
      exact fin _ _ _ 2 (by exact Er) (by exact Er) ho' hrf.symm
end Go.Proofs.YthnhpbihgalgeaaDoor
