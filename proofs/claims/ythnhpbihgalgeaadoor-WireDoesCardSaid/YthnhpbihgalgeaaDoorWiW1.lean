/-
  Walks of package wire: put, file; Walks of package wire: Bytes, One, Long; texts compared; the example; Walks of package wire: One, the example.
-/
import Derived.Test.YthnhpbihgalgeaaDoorWiSpec
namespace Go.Proofs.YthnhpbihgalgeaaDoor
set_option linter.unusedSimpArgs false
set_option linter.unusedVariables false
set_option linter.unnecessarySimpa false
open Go Am
set_option maxRecDepth 100000

/-- a block that is left out of what must stay may become anything -/
theorem sub_del {h h' : Heap} {id : Nat} (e : ∀ i, i ≠ id → h' i = h i := by intro i hi; simp only [upd, hi, if_false]) : Am.Sub (delH h id) h' := fun i b hb => by
  obtain ⟨h1, h2⟩ := delH_some hb
  exact ⟨b, by rw [e i h1]; exact h2, rfl, .inr rfl⟩

theorem oct_shift (n i : Nat) (hn : n < 256 ^ 8) (hi : i < 8) : IntKind.u8.wrap (((n : Nat) : Int).fdiv (2 ^ (min (8 * i : Int).toNat 64))) = ((UInt8.ofNat (n / 256 ^ i % 256)).toNat : Int) := by
  have h1 : min (8 * i : Int).toNat 64 = 8 * i := by
    have : (8 * (i : Int)).toNat = 8 * i := by omega
    rw [this]; omega
  rw [h1, wrap_u8, Int.fdiv_eq_ediv_of_nonneg _ (by exact Int.le_of_lt (Int.pow_pos (by decide)))]
  have h2 : (2 : Int) ^ (8 * i) = ((256 ^ i : Nat) : Int) := by
    rw [Int.pow_mul, Int.natCast_pow]; rfl
  rw [h2, ← Int.natCast_ediv]
  simp

theorem cutH_out1 {b x : Nat} {h h0 : Heap} (hl : ∀ id blk, h0 id = some blk → ∀ c ∈ blk.cells, lowC b c = true) (e : h x = h0 x) (hx : x < b) : cutH (b + 0) h x = h0 x := by
  cases h1 : h0 x with
  | none => unfold cutH; rw [if_pos (by omega), e, h1]; rfl
  | some blk => exact cutH_same (by omega) (e.trans h1) (lowCs_of fun c hc => hl x blk h1 c hc)
def putI (s : S) (v wd : Nat) (h : Heap) (b id i : Nat) (st : St) : Prop :=
  ∃ ver cap, OctRow st.h id ver cap (s ++ leB i v) ∧ (∀ x, x < b → x ≠ id → st.h x = h x) ∧ st.t 0 = .one (.win id ver 0 (s.length + i) cap) ∧ st.t 1 = U64V v ∧ st.t 8 = IntV wd ∧ st.t 9 = IntV (i : Nat)

theorem put_ok (s : S) (v wd : Nat) (hv : v < 256 ^ 8) (hw : wd ≤ 8) (hs : s.length ≤ 1000000) (h : Heap) (b id ver cap : Nat) (hid : id < b) (hr : OctRow h id ver cap s) :
    ACalls Tryd.prog 22 [.one (.win id ver 0 s.length cap), U64V v, IntV wd] h b 0 (rowR 1 ((s ++ leB wd v).map encO) h id) := by
  refine ACalls.enter Tryd.func22 rfl (by simp [Tryd.ntmps22]) (fun ι w hn H => ?_)
  have hlow := H.lowCells
  refine Rk ?_
  refine AWP.seq ?_
  refine Rk ?_
  refine AWP.block ?_
  refine AWP.loopM 0 (fun m st => ∃ i, i ≤ wd ∧ m = wd - i ∧ putI s v wd h b id i st) wd rfl ⟨0, Nat.zero_le _, rfl, ver, cap, by rw [leB, List.append_nil]; exact hr, fun _ _ _ => rfl, by exact Er, by exact Er, by exact Er, by exact Er⟩ ?_
  rintro m ⟨t, hh, n⟩ ⟨i, hi, rfl, ver, cap, hr, ho, e0, e1, e8, e9⟩ hn1
  simp only at hr ho e0 e1 e8 e9 hn1
  subst hn1
  refine Rkf (jn2 @e8 @e9) ?_
  refine AWP.seq ?_
  by_cases hlt : (i : Int) < wd
  · have hw1 : IntKind.i64.wrap ((i : Int) + 1) = ((i + 1 : Nat) : Int) := by rw [wrap_i64 (by omega) (by omega)]; rfl
    have hw8 : IntKind.i64.wrap (8 * (i : Int)) = 8 * (i : Int) := wrap_i64 (by omega) (by omega)
    have hneg : ¬ (8 * (i : Int)) < 0 := by omega
    have hsh := oct_shift v i hv (by omega)
    have hln : (s ++ leB i v).length = s.length + i := by rw [List.length_append, leB_len]
    refine Btf @hlt ?_
    refine AWP.skip ?_
    refine Ev ?_
    refine AWP.seq ?_
    refine AWP.block ?_
    refine Rkf @e9 ?_
    refine Raf (jn5 @e0 @e1 @hw8 @hneg @hsh) (fun E K hE hK => ?_)
    refine BiR.of ?_
    rw [← hln]
    refine append_oct (y := [UInt8.ofNat (v / 256 ^ i % 256)]) (hr.ne (by omega)) ty_isIntT_25 (by (first | (simp -implicitDefEqProofs only [go_sem, ↓reduceIte, Nat.reduceEqDiff, Nat.reduceAdd, Nat.reduceLT, Nat.reduceLeDiff, reduceCtorEq, Int.toNat_natCast, srcA]; first | done | rfl) | rfl)) (by omega) (by simp) (fun cap' T' q1 q2 => ?_)
    refine Ev ?_
    refine hK _ _ _ ?_; clear hE hK K E
    refine Ev ?_
    refine Raf (jn2 @e9 @hw1) (fun E K hE hK => ?_); refine hK _ _ _ ?_; clear hE hK K E
    have hsn : (s ++ leB i v) ++ [UInt8.ofNat (v / 256 ^ i % 256)] = s ++ leB (i + 1) v := by rw [leB_snoc, List.append_assoc]
    rw [hsn]
    have hl2 : (s ++ leB (i + 1) v).length = s.length + (i + 1) := by rw [List.length_append, leB_len]
    refine ⟨wd - (i + 1), by omega, i + 1, by omega, rfl, ver + 1, cap', OctRow.cut ⟨T', by exact Er, by rw [hl2]; simp only [hln, List.length_cons, List.length_nil] at q1; omega, q2⟩ hid, fun x hx hne => ?_, by refine Evf @hln ?_; exact cutV_win hid, by exact Ecf @e1, by exact Ecf @e8, by exact Er⟩
    exact cutH_out1 hlow (by refine Evf (jn2 @hne (show ¬ x = b by omega)) ?_; exact ho x hx hne) hx
  · refine Bff @hlt ?_
    refine AWP.exit ?_
    refine Ev ?_
    have hil : i = wd := by omega
    subst hil
    obtain ⟨T, hb, h3, h4⟩ := hr
    have hln : (s ++ leB i v).length = s.length + i := by rw [List.length_append, leB_len]
    refine Rkf @e0 ?_
    refine AWP.ret ?_
    have hupd : ∀ x, x < b → hh x = upd h id (rowB ver ((s ++ leB i v).map encO) T) x := fun x hx => by
      by_cases hx2 : x = id
      · subst hx2; rw [upd_same, hb]
      · rw [upd_ne _ _ _ _ hx2]; exact ho x hx hx2
    refine Ends.turn hn H hid hupd (lowCs_app (lowCs_p _ _) (lowCs_mono (Nat.zero_le _) h4)) (r0 := .one (.win id ver 0 (s.length + i) cap))
      (by rw [show Tryd.f22.results.toList = [.tmp 6] from rfl]; exact Er) (.one (.inl ⟨rfl, by simp [lowC, hid]⟩)) ⟨ver, cap, T, ?_, ?_, h4, ?_, rfl⟩
    · rw [List.length_map]; omega
    · rw [List.length_map]; omega
    · rw [List.length_map, hln]

/-- what an own row of octets may be told of, ahead of a call -/
theorem OctRow.of {h : Heap} {id ver cap : Nat} {m : S} {T : List Cell} (h1 : h id = some (rowB ver (m.map encO) T)) (h2 : cap * 1 = (m.map encO).length * 1 + T.length) (h3 : lowCs 0 T = true) : OctRow h id ver cap m :=
  ⟨T, h1, by rw [List.length_map] at h2; omega, h3⟩

theorem file_ok (s : S) (f : Fl) (hf : FlBd f) (hs : s.length ≤ 900000) (h : Heap) (b id ver cap : Nat) (hid : id < b) (hr : OctRow h id ver cap s) :
    ACalls Tryd.prog 23 [.one (.win id ver 0 s.length cap), FlV f] h b 0 (rowR 1 ((s ++ fileB f).map encO) h id) := by
  refine ACalls.enter Tryd.func23 rfl (by simp [Tryd.ntmps23]) (fun ι w hn H => ?_)
  have hlow := H.lowCells
  obtain ⟨f1, f2, f3, f4, _⟩ := mayF_bd hf.may
  have f5 := hf.sum
  have hk := keyR_bd f.rank
  have wn : IntKind.u64.wrap (f.name.length : Int) = ((f.name.length : Nat) : Int) := by rw [wrap_u64]; omega
  have ws : IntKind.u64.wrap f.sum = ((f.sum.toNat : Nat) : Int) := by rw [wrap_u64]; omega
  have w1 : IntKind.u64.wrap f.blk = ((f.blk.toNat : Nat) : Int) := by rw [wrap_u64]; omega
  have w2 : IntKind.u64.wrap f.frm = ((f.frm.toNat : Nat) : Int) := by rw [wrap_u64]; omega
  have w3 : IntKind.u64.wrap f.len = ((f.len.toNat : Nat) : Int) := by rw [wrap_u64]; omega
  have hk' : keyR f.rank = (((keyR f.rank).toNat : Nat) : Int) := by omega
  have hne : ¬ id = b := by omega
  have hne' : ¬ b = id := by omega
  obtain ⟨T0, hb0, hc0, hl0⟩ := hr
  have sz := mkS_size f.name
  refine Rk ?_
  refine Re [id] (jn4 @hne @hne' @sz @wn) (fun K hK => ?_)
  refine CallD.use (put_ok s f.name.length 1 (by omega) (by decide) (by omega) _ _ id ver cap (Nat.lt_succ_of_lt hid) ⟨T0, by exact Erf (jn2 @hb0 @hne), hc0, hl0⟩) body_22 ?_
  rintro _ _ ⟨ver1, cap1, T1, g1, g2, g3, rfl, rfl⟩
  refine ⟨(sub_delH _ _).updN (delH_same _ _), ?_⟩
  refine Evf (jn3 @hne @hne' @delH_lit) ?_
  refine BiD.of ?_
  refine append_oct (y := f.name) (OctRow.of (upd_same _ _ _) g2 g3) ty_isIntT_9 (by simp only [srcA, if_true, mkS_size]; rfl) (by simp only [List.length_append, leB_len]; omega) (by omega) (fun cap2 T2 q1 q2 => ?_)
  refine ⟨((sub_delH _ _).updN (delH_same _ _)).updN (delH_same _ _), ?_⟩
  refine Evf (jn3 @hne @hne' @delH_lit) ?_
  refine hK _ _ _ ?_; clear hK K
  rw [show (s ++ leB 1 f.name.length).length + f.name.length = ((s ++ leB 1 f.name.length) ++ f.name).length by simp only [List.length_append]]
  obtain ⟨s1, hs1⟩ : ∃ s1, s1 = (s ++ leB 1 f.name.length) ++ f.name := ⟨_, rfl⟩
  rw [← hs1]
  have hs1l : s1.length ≤ 910000 := by rw [hs1]; simp only [List.length_append, leB_len]; omega
  refine Re [id] (jn2 @hne @hne') (fun K hK => ?_)
  refine CallD.use (rKeyR_ok f.rank _ _) body_37 ?_
  rintro _ _ ⟨rfl, rfl⟩
  refine ⟨sub_delH _ _, ?_⟩
  refine Evf (jn3 @hne @hne' @delH_lit) ?_
  rw [hk']
  refine CallD.use (put_ok s1 (keyR f.rank).toNat 8 (by rw [pow8]; omega) (by decide) (by omega) _ _ id (ver1 + 1) cap2 (Nat.lt_succ_of_lt hid) ⟨T2, upd_same _ _ _, by rw [hs1, List.length_append]; exact q1, q2⟩) body_22 ?_
  rintro _ _ ⟨ver3, cap3, T3, g1, g2, g3, rfl, rfl⟩
  refine ⟨sub_del, ?_⟩
  obtain ⟨s2, hs2⟩ : ∃ s2, s2 = s1 ++ leB 8 (keyR f.rank).toNat := ⟨_, rfl⟩
  rw [← hs2] at g1 g2 ⊢
  have hs2l : s2.length ≤ 920000 := by rw [hs2]; simp only [List.length_append, leB_len]; omega
  refine Evf (jn4 @hne @hne' @delH_lit @ws) ?_
  refine CallD.use (put_ok s2 f.sum.toNat 4 (by rw [pow8]; omega) (by decide) (by omega) _ _ id ver3 cap3 (Nat.lt_succ_of_lt hid) (OctRow.of (upd_same _ _ _) g2 g3)) body_22 ?_
  rintro _ _ ⟨ver4, cap4, T4, g1, g2, g3, rfl, rfl⟩
  refine ⟨sub_del, ?_⟩
  obtain ⟨s3, hs3⟩ : ∃ s3, s3 = s2 ++ leB 4 f.sum.toNat := ⟨_, rfl⟩
  rw [← hs3] at g1 g2 ⊢
  have hs3l : s3.length ≤ 930000 := by rw [hs3]; simp only [List.length_append, leB_len]; omega
  refine Evf (jn3 @hne @hne' @delH_lit) ?_
  refine hK _ _ _ ?_; clear hK K
  refine Rgf (jn3 @hne @hne' @w1) (fun E K hE hK => ?_)
  refine CallR.use (put_ok s3 f.blk.toNat 2 (by rw [pow8]; omega) (by decide) (by omega) _ _ id ver4 cap4 (Nat.lt_succ_of_lt hid) (OctRow.of (upd_same _ _ _) g2 g3)) body_22 ?_
  rintro _ _ ⟨ver5, cap5, T5, g1, g2, g3, rfl, rfl⟩
  obtain ⟨s4, hs4⟩ : ∃ s4, s4 = s3 ++ leB 2 f.blk.toNat := ⟨_, rfl⟩
  rw [← hs4] at g1 g2 ⊢
  have hs4l : s4.length ≤ 940000 := by rw [hs4]; simp only [List.length_append, leB_len]; omega
  refine Ev ?_
  refine hK _ _ _ ?_; clear hE hK K E
  refine Re [id] (jn3 @hne @hne' @w2) (fun K hK => ?_)
  refine CallD.use (put_ok s4 f.frm.toNat 3 (by rw [pow8]; omega) (by decide) (by omega) _ _ id ver5 cap5 (Nat.lt_succ_of_lt hid) (OctRow.of (upd_same _ _ _) g2 g3)) body_22 ?_
  rintro _ _ ⟨ver6, cap6, T6, g1, g2, g3, rfl, rfl⟩
  refine ⟨sub_del, ?_⟩
  obtain ⟨s5, hs5⟩ : ∃ s5, s5 = s4 ++ leB 3 f.frm.toNat := ⟨_, rfl⟩
  rw [← hs5] at g1 g2 ⊢
  have hs5l : s5.length ≤ 950000 := by rw [hs5]; simp only [List.length_append, leB_len]; omega
  refine Evf (jn4 @hne @hne' @delH_lit @w3) ?_
  refine CallD.use (put_ok s5 f.len.toNat 3 (by rw [pow8]; omega) (by decide) (by omega) _ _ id ver6 cap6 (Nat.lt_succ_of_lt hid) (OctRow.of (upd_same _ _ _) g2 g3)) body_22 ?_
  rintro _ _ ⟨ver7, cap7, T7, g1, g2, g3, rfl, rfl⟩
  refine ⟨sub_del, ?_⟩
  have he : s5 ++ leB 3 f.len.toNat = s ++ fileB f := by rw [hs5, hs4, hs3, hs2, hs1]; simp only [fileB, List.append_assoc]
  rw [he] at g1 g2 ⊢
  refine Ev ?_
  refine hK _ _ _ ?_; clear hK K
  refine AWP.ret ?_
  refine Ends.turn hn H hid (blk := rowB ver7 ((s ++ fileB f).map encO) T7) (fun x hx => ?_) (lowCs_app (lowCs_p _ _) (lowCs_mono (Nat.zero_le _) g3)) (r0 := .one (.win id ver7 0 ((s ++ fileB f).map encO).length cap7))
      (by rw [show Tryd.f23.results.toList = [.tmp 4] from rfl]; exact Er) (.one (.inl ⟨rfl, by simp [lowC, hid]⟩)) ⟨ver7, cap7, T7, g1, g2, g3, rfl, rfl⟩
  have hx' : x < b := hx
  by_cases hx2 : x = id
  · subst hx2; rw [upd_same]; exact Er
  · rw [upd_ne _ _ _ _ hx2]; exact Ecf (jn2 @hx2 (show ¬ x = b by omega))
end Go.Proofs.YthnhpbihgalgeaaDoor

namespace Go.Proofs.YthnhpbihgalgeaaDoor
set_option linter.unusedSimpArgs false
set_option linter.unusedVariables false
set_option linter.unnecessarySimpa false
open Go Am
set_option maxRecDepth 100000

theorem sameB_ok (s u : S) (h : Heap) (b : Nat) : ACalls Tryd.prog 12 [OctV s, OctV u] h b 0 (fun r h' => r = BoolV (decide (s = u)) ∧ h' = h) := by
  refine ACalls.enter Tryd.func12 rfl (by simp [Tryd.ntmps12]) (fun ι w hn H => ?_)
  have o1 := octE_map s
  have o2 := octE_map u
  have ho : octT Tryd.prog 25 9 = true := by kernel_rfl
  refine Rk ?_
  refine Rkf (jn3 @o1 @o2 @ho) ?_
  refine AWP.ret ?_
  exact Ends.pure hn H (fun _ _ => rfl) (r0 := BoolV (decide (s = u))) (by rw [show Tryd.f12.results.toList = [.tmp 4] from rfl]; exact Er) (.v _) ⟨rfl, rfl⟩

theorem put_nil_ok (v wd : Nat) (hv : v < 256 ^ 8) (hw : wd ≤ 8) (h : Heap) (b : Nat) :
    ACalls Tryd.prog 22 [.one (.p (.v (.slice none 0 0))), U64V v, IntV wd] h b 1 (rowR 1 ((leB wd v).map encO) h b) := by
  refine (ACalls.nilArg (al := []) (put_ok [] v wd hv hw (by decide) (upd h b ⟨0, []⟩) (b + 1) b 0 0 (Nat.lt_succ_self _) ⟨[], upd_same _ _ _, rfl, rfl⟩)).mono ?_
  rintro r h' ⟨ver, cap, T, g1, g2, g3, g4, rfl⟩
  exact ⟨ver, cap, T, g1, g2, g3, g4, by rw [upd_upd]; rfl⟩
theorem file_nil_ok (f : Fl) (hf : FlBd f) (h : Heap) (b : Nat) :
    ACalls Tryd.prog 23 [.one (.p (.v (.slice none 0 0))), FlV f] h b 1 (rowR 1 ((fileB f).map encO) h b) := by
  refine (ACalls.nilArg (al := []) (file_ok [] f hf (by decide) (upd h b ⟨0, []⟩) (b + 1) b 0 0 (Nat.lt_succ_self _) ⟨[], upd_same _ _ _, rfl, rfl⟩)).mono ?_
  rintro r h' ⟨ver, cap, T, g1, g2, g3, g4, rfl⟩
  exact ⟨ver, cap, T, g1, g2, g3, g4, by rw [upd_upd]; rfl⟩

theorem check_nil (h : Heap) (b : Nat) : ACalls Tryd.prog 21 [.one (.p (.v (.slice none 0 0)))] h b 0 (fun r h' => r = IntV 0 ∧ h' = h) := by
  have c := tCheck_ok [] (by decide) (delP h (fun _ => false)) b
  have c' := c.seal (fun _ => false) (.cons (.one (.p (.nil 6))) .nil)
  exact c'

def wbI (l : List Fl) (h : Heap) (b i : Nat) (st : St) : Prop :=
  ∃ ver cap, OctRow st.h b ver cap (leB 2 l.length ++ filesB (l.take i)) ∧ (∀ x, x < b → st.h x = h x) ∧ st.t 5 = .one (.win b ver 0 (leB 2 l.length ++ filesB (l.take i)).length cap) ∧ st.t 17 = FlsV l ∧ st.t 18 = IntV l.length ∧ st.t 19 = IntV (i : Nat)

theorem filesB_len {l : List Fl} (h : ∀ f ∈ l, FlBd f) : (filesB l).length ≤ 117 * l.length := by
  induction l with
  | nil => simp [filesB]
  | cons f l ih =>
    have h1 := (mayF_bd (h f (by simp)).may).2.2.2.1
    have h2 := ih (fun x hx => h x (by simp [hx]))
    have h3 := fileB_len f
    simp only [filesB, List.length_append, List.length_cons] at *
    omega

theorem bytes_ok (l : List Fl) (hs : ∀ f ∈ l, 0 ≤ f.sum ∧ f.sum < 4294967296) (hl : l.length ≤ 1000000) (h : Heap) (b : Nat) :
    ACalls Tryd.prog 10 [FlsV l] h b 0 (fun r h' => r = .tup [OctV (bytesR l).1, IntV (bytesR l).2] ∧ h' = h) := by
  refine ACalls.enter Tryd.func10 rfl (by simp [Tryd.ntmps10]) (fun ι w hn H => ?_)
  have hlow := H.lowCells
  have hlm : (l.map encF).length = l.length := List.length_map _
  refine Rk ?_
  refine AWP.seq ?_
  refine Rg (fun E K hE hK => ?_)
  refine Us (tCheck_ok l hl _ _) body_21 ?_
  refine hK _ _ _ ?_; clear hE hK K E
  by_cases c1 : checkT l = 0
  case neg =>
    refine Rkf @c1 ?_
    refine Bt ?_
    refine Rk ?_
    refine AWP.ret ?_
    refine Ev ?_
    exact Ends.pure hn H (fun _ _ => rfl) (r0 := .tup [.one (.p (.v (.slice none 0 0))), IntV (checkT l)]) (by rw [show Tryd.f10.results.toList = [.tmp 2, .tmp 3] from rfl]; exact Er) (frz_tup2 (.one (frz_nil 1)) (.v _)) ⟨by unfold bytesR; rw [if_neg c1]; rfl, rfl⟩
  obtain ⟨hbd, h256⟩ := check_bd c1 hs
  have wn : IntKind.u64.wrap (l.length : Int) = ((l.length : Nat) : Int) := by rw [wrap_u64]; omega
  refine Rkf @c1 ?_
  refine Bs ?_
  refine Rgf (jn2 @hlm @wn) (fun E K hE hK => ?_)
  refine CallR.use (put_nil_ok l.length 2 (by rw [pow8]; omega) (by decide) _ _) body_22 ?_
  rintro _ _ ⟨ver, cap, T, g1, g2, g3, rfl, rfl⟩
  refine Ev ?_
  refine hK _ _ _ ?_; clear hE hK K E
  refine AWP.seq ?_
  refine Rkf @hlm ?_
  refine AWP.block ?_
  refine AWP.loopM 1 (fun m st => ∃ i, i ≤ l.length ∧ m = l.length - i ∧ wbI l h b i st) l.length rfl ⟨0, Nat.zero_le _, rfl, ver, cap, by simp only [List.take_zero, filesB, List.append_nil]; exact OctRow.of (upd_same _ _ _) g2 g3, Ou, by simp only [List.take_zero, filesB, List.append_nil]; exact Er, by exact Er, by exact Er, by exact Er⟩ ?_
  rintro m ⟨t, hh, n⟩ ⟨i, hi, rfl, ver, cap, hr, ho, e5, e17, e18, e19⟩ hn1
  simp only at hr ho e5 e17 e18 e19 hn1
  subst hn1
  refine Rkf (jn2 @e18 @e19) ?_
  refine AWP.seq ?_
  by_cases hlt : (i : Int) < l.length
  · have hw1 : IntKind.i64.wrap ((i : Int) + 1) = ((i + 1 : Nat) : Int) := by rw [wrap_i64 (by omega) (by omega)]; rfl
    have hi2 : i < l.length := by omega
    have hge := encF_getD l i hi2
    obtain ⟨f, hf⟩ : ∃ f, l[i] = f := ⟨_, rfl⟩
    have hfm : f ∈ l := by rw [← hf]; exact List.getElem_mem hi2
    rw [hf] at hge
    have hsn := filesB_snoc l i hi2
    rw [hf] at hsn
    have hsl : (leB 2 l.length ++ filesB (l.take i)).length ≤ 100000 := by
      have h1 := filesB_len (l := l.take i) (fun x hx => hbd x (List.mem_of_mem_take hx))
      rw [List.length_take] at h1
      simp only [List.length_append, leB_len]; omega
    have he : leB 2 l.length ++ filesB (l.take (i + 1)) = (leB 2 l.length ++ filesB (l.take i)) ++ fileB f := by rw [hsn, List.append_assoc]
    refine Btf @hlt ?_
    refine AWP.skip ?_
    refine Ev ?_
    refine AWP.seq ?_
    refine AWP.block ?_
    refine Rgf (jn5 @e17 @e19 @hlm @hlt @hge) (fun E K hE hK => ?_)
    refine ⟨by omega, ?_⟩
    refine hK _ _ _ ?_; clear hE hK K E
    refine Raf @e5 (fun E K hE hK => ?_)
    refine CallR.use (file_ok (leB 2 l.length ++ filesB (l.take i)) f (hbd f hfm) (by omega) _ _ b ver cap (Nat.lt_succ_of_lt (Nat.lt_succ_self _)) (hr.ne (by omega))) body_23 ?_
    rintro _ _ ⟨ver2, cap2, T2, g1, g2, g3, rfl, rfl⟩
    rw [← he] at g1 g2 ⊢
    refine Ev ?_
    refine hK _ _ _ ?_; clear hE hK K E
    refine Ev ?_
    refine Raf (jn2 @e19 @hw1) (fun E K hE hK => ?_); refine hK _ _ _ ?_; clear hE hK K E
    refine ⟨(by decide : 1 ≤ 2), l.length - (i + 1), by omega, i + 1, by omega, rfl, ver2, cap2, OctRow.cut (OctRow.of (by exact Er) g2 g3) (Nat.lt_succ_self _), cutH_outer (Nat.le_succ _) (Ouf @ho) hlow, by refine Ev ?_; exact cutV_win (Nat.lt_succ_self _), by exact Ecf @e17, by exact Ecf @e18, by exact Er⟩
  · refine Bff @hlt ?_
    refine AWP.exit ?_
    refine Ev ?_
    have hil : i = l.length := by omega
    subst hil
    rw [List.take_length] at hr e5
    have hbr : bytesR l = (tableB l, 0) := by unfold bytesR; rw [if_pos c1]
    obtain ⟨T2, hb, h3, h4⟩ := hr
    refine Rkf @e5 ?_
    refine AWP.frz 2 (cap := cap) (len := (tableB l).length) (off := 0) (id := b) 1 ((tableB l).map encO) (by exact Er) hb rfl (by rw [List.length_map]) (okEs_oct _).len (row_cells (okEs_oct _) ver _) ?_
    refine AWP.ret ?_
    refine Ev ?_
    exact Ends.pure hn H (fun id (hid : id < b) => by simp -implicitDefEqProofs only [go_sem, ↓reduceIte, Nat.reduceEqDiff, Nat.reduceAdd, Nat.reduceLT, Nat.reduceLeDiff, reduceCtorEq, Int.toNat_natCast, delH, show ¬ id = b by omega]; exact ho id hid) (r0 := .tup [OctV (tableB l), IntV 0]) (by rw [show Tryd.f10.results.toList = [.tmp 2, .tmp 3] from rfl]; exact Er) (frz_tup2 (frzV.p _) (.v _)) ⟨by rw [hbr], rfl⟩

end Go.Proofs.YthnhpbihgalgeaaDoor

namespace Go.Proofs.YthnhpbihgalgeaaDoor
set_option linter.unusedSimpArgs false
set_option linter.unusedVariables false
set_option linter.unnecessarySimpa false
open Go Am
set_option maxRecDepth 100000

/-- a literal's one file, as one who only reads sees it -/
theorem view_fl1 {h : Heap} {D : Nat → Bool} {id : Nat} (f : Fl) (hD : D id = true) (hb : h id = some ⟨0, (encF f).map .p⟩) : ViewC h D (.win id 0 0 1 1) (.p (.sl 6 [encF f])) :=
  @view_rowT h D id 0 6 1 0 0 1 [encF f] [] hD (by rw [hb]; rfl) (okEs_fl [f]) (by simp) rfl
theorem view_octs {h : Heap} {D : Nat → Bool} {id ver cap : Nat} {T : List Cell} (m : S) (hD : D id = true) (hb : h id = some (rowB ver (m.map encO) T)) : ViewC h D (.win id ver 0 m.length cap) (.p (.sl 1 (m.map encO))) := by
  have hlm : (m.map encO).length = m.length := List.length_map _
  have vw := view_rowT (h := h) (D := D) (id := id) (ver := ver) (sz := 1) (m := m.length) (j := 0) (off := 0) (cap := cap) hD hb (okEs_oct m) (by rw [hlm]; omega) rfl
  rw [List.drop_zero, ← hlm, List.take_length, hlm] at vw
  exact vw
theorem check_lend (f : Fl) {hh : Heap} {id : Nat} (hb : hh id = some ⟨0, (encF f).map .p⟩) (b : Nat) : ACalls Tryd.prog 21 [.one (.win id 0 0 1 1)] hh b 0 (fun r h' => r = IntV (checkT [f]) ∧ h' = hh) :=
  (tCheck_ok [f] (by simp) noH b).lend (.cons (.one (view_fl1 f rfl hb)) .nil) (.one _)
theorem sameB_lend (s m : S) {hh : Heap} {id ver cap : Nat} {T : List Cell} (hb : hh id = some (rowB ver (m.map encO) T)) (b : Nat) :
    ACalls Tryd.prog 12 [OctV s, .one (.win id ver 0 m.length cap)] hh b 0 (fun r h' => r = BoolV (decide (s = m)) ∧ h' = hh) :=
  (sameB_ok s m noH b).lend (.cons (.same _) (.cons (.one (view_octs m rfl hb)) .nil)) (.one _)

theorem one_ok (f : Fl) (hs : 0 ≤ f.sum ∧ f.sum < 4294967296) (h : Heap) (b : Nat) :
    ACalls Tryd.prog 11 [FlV f] h b 0 (fun r h' => r = .tup [OctV (oneB f).1, IntV (oneB f).2] ∧ h' = h) := by
  refine ACalls.enter Tryd.func11 rfl (by simp [Tryd.ntmps11]) (fun ι w hn H => ?_)
  refine Rk ?_
  refine AWP.seq ?_
  refine Rg (fun E K hE hK => ?_)
  refine Us (check_lend f (id := b + 1) (by exact Er) _) body_21 ?_
  refine hK _ _ _ ?_; clear hE hK K E
  by_cases c1 : checkT [f] = 0
  case neg =>
    refine Rkf @c1 ?_
    refine Bt ?_
    refine Rk ?_
    refine AWP.ret ?_
    refine Ev ?_
    exact Ends.pure hn H Ou (r0 := .tup [.one (.p (.v (.slice none 0 0))), IntV (checkT [f])]) (by rw [show Tryd.f11.results.toList = [.tmp 2, .tmp 3] from rfl]; exact Er) (frz_tup2 (.one (frz_nil 1)) (.v _)) ⟨by unfold oneB; rw [if_neg c1]; rfl, rfl⟩
  have hf : FlBd f := ⟨by rw [checkT_one] at c1; by_cases h : mayF f = true; exact h; rw [if_neg h] at c1; exact absurd c1 (by decide), hs⟩
  refine Rkf @c1 ?_
  refine Bs ?_
  refine Rg (fun E K hE hK => ?_)
  refine CallR.use (file_nil_ok f hf _ _) body_23 ?_
  rintro _ _ ⟨ver, cap, T, g1, g2, g3, rfl, rfl⟩
  refine Ev ?_
  refine hK _ _ _ ?_; clear hE hK K E
  refine AWP.frz 2 (cap := cap) (len := (fileB f).length) (off := 0) (id := b + 2) 1 ((fileB f).map encO) (by exact Er) (by exact Er) rfl (by rw [List.length_map]) (okEs_oct _).len (row_cells (okEs_oct _) ver _) ?_
  refine AWP.ret ?_
  refine Ev ?_
  exact Ends.pure hn H (fun id (hid : id < b) => by simp -implicitDefEqProofs only [go_sem, ↓reduceIte, Nat.reduceEqDiff, Nat.reduceAdd, Nat.reduceLT, Nat.reduceLeDiff, reduceCtorEq, Int.toNat_natCast, delH, show ¬ id = b by omega, show ¬ id = b + 1 by omega, show ¬ id = b + 2 by omega]) (r0 := .tup [OctV (fileB f), IntV 0]) (by rw [show Tryd.f11.results.toList = [.tmp 2, .tmp 3] from rfl]; exact Er) (frz_tup2 (frzV.p _) (.v _)) ⟨by unfold oneB; rw [if_pos c1], rfl⟩

theorem bytes_nil (h : Heap) (b : Nat) : ACalls Tryd.prog 10 [.one (.p (.v (.slice none 0 0)))] h b 0 (fun r h' => r = .tup [OctV [0, 0], IntV 0] ∧ h' = h) := by
  have c := bytes_ok [] (by simp) (by decide) (delP h (fun _ => false)) b
  exact c.seal (fun _ => false) (.cons (.one (.p (.nil 6))) .nil)

theorem live_ok (h : Heap) (b : Nat) : ACalls Tryd.prog 8 [] h b 0 (fun r h' => r = BoolV true ∧ h' = h) := by
  refine ACalls.enter Tryd.func8 rfl (by simp [Tryd.ntmps8]) (fun ι w hn H => ?_)
  have ho : octT Tryd.prog 25 9 = true := by kernel_rfl
  refine Rk ?_
  refine Rg (fun E K hE hK => ?_)
  refine Us (bytes_nil _ _) body_10 ?_
  refine hK _ _ _ ?_; clear hE hK K E
  have e1 : octE [encO 0, encO 0] = some [0, 0] := octE_map [0, 0]
  have e2 : octC [.p (.v (.int .u8 0)), .p (.v (.int .u8 0))] = some [0, 0] := octC_map [0, 0]
  refine Rgf (jn3 @ho @e1 @e2) (fun E K hE hK => ?_)
  refine ⟨by decide, ?_⟩
  refine hK _ _ _ ?_; clear hE hK K E
  refine AWP.ret ?_
  exact Ends.pure hn H Ou (r0 := BoolV true) (by rw [show Tryd.f8.results.toList = [.tmp 0] from rfl]; exact Er) (.v _) ⟨rfl, rfl⟩
end Go.Proofs.YthnhpbihgalgeaaDoor
