/-
  Walks of package wire: put, file.
-/
import Derived.Test.YthnhpbihgalgeaaDoorWiSpec
namespace Go.Proofs.YthnhpbihgalgeaaDoor
set_option linter.unusedSimpArgs false
set_option linter.unusedVariables false
set_option linter.unnecessarySimpa false
open Go Am
set_option maxRecDepth 100000

/-- a block that is left out of what must stay may become anything -/
theorem sub_del {h h' : Heap} {id : Nat} (e : ∀ i, i ≠ id → h' i = h i := by intro i hi; simp only [upd, hi, if_false]) : Am.Sub (delH h id) h' := fun i b hb => by
  obtain ⟨h1, h2⟩ := delH_some hb
  exact ⟨b, by rw [e i h1]; exact h2, rfl, .inr rfl⟩

theorem oct_shift (n i : Nat) (hn : n < 256 ^ 8) (hi : i < 8) : IntKind.u8.wrap (((n : Nat) : Int).fdiv (2 ^ (min (8 * i : Int).toNat 64))) = ((UInt8.ofNat (n / 256 ^ i % 256)).toNat : Int) := by
  have h1 : min (8 * i : Int).toNat 64 = 8 * i := by
    have : (8 * (i : Int)).toNat = 8 * i := by omega
    rw [this]; omega
  rw [h1, wrap_u8, Int.fdiv_eq_ediv_of_nonneg _ (by exact Int.le_of_lt (Int.pow_pos (by decide)))]
  have h2 : (2 : Int) ^ (8 * i) = ((256 ^ i : Nat) : Int) := by
    rw [Int.pow_mul, Int.natCast_pow]; rfl
  rw [h2, ← Int.natCast_ediv]
  simp

theorem cutH_out1 {b x : Nat} {h h0 : Heap} (hl : ∀ id blk, h0 id = some blk → ∀ c ∈ blk.cells, lowC b c = true) (e : h x = h0 x) (hx : x < b) : cutH (b + 0) h x = h0 x := by
  cases h1 : h0 x with
  | none => unfold cutH; rw [if_pos (by omega), e, h1]; rfl
  | some blk => exact cutH_same (by omega) (e.trans h1) (lowCs_of fun c hc => hl x blk h1 c hc)
def putI (s : S) (v wd : Nat) (h : Heap) (b id i : Nat) (st : St) : Prop :=
  ∃ ver cap, OctRow st.h id ver cap (s ++ leB i v) ∧ (∀ x, x < b → x ≠ id → st.h x = h x) ∧ st.t 0 = .one (.win id ver 0 (s.length + i) cap) ∧ st.t 1 = U64V v ∧ st.t 8 = IntV wd ∧ st.t 9 = IntV (i : Nat)

theorem put_ok (s : S) (v wd : Nat) (hv : v < 256 ^ 8) (hw : wd ≤ 8) (hs : s.length ≤ 1000000) (h : Heap) (b id ver cap : Nat) (hid : id < b) (hr : OctRow h id ver cap s) :
    ACalls Tryd.prog 22 [.one (.win id ver 0 s.length cap), U64V v, IntV wd] h b 0 (rowR 1 ((s ++ leB wd v).map encO) h id) := by
  refine ACalls.enter Tryd.func22 rfl (by simp [Tryd.ntmps22]) (fun ι w hn H => ?_)
  have hlow := H.lowCells
  refine Rk ?_
  refine AWP.seq ?_
  refine Rk ?_
  refine AWP.block ?_
  refine AWP.loopM 0 (fun m st => ∃ i, i ≤ wd ∧ m = wd - i ∧ putI s v wd h b id i st) wd rfl ⟨0, Nat.zero_le _, rfl, ver, cap, by rw [leB, List.append_nil]; exact hr, fun _ _ _ => rfl, by exact Er, by exact Er, by exact Er, by exact Er⟩ ?_
  rintro m ⟨t, hh, n⟩ ⟨i, hi, rfl, ver, cap, hr, ho, e0, e1, e8, e9⟩ hn1
  simp only at hr ho e0 e1 e8 e9 hn1
  subst hn1
  refine Rkf (jn2 @e8 @e9) ?_
  refine AWP.seq ?_
  by_cases hlt : (i : Int) < wd
  · have hw1 : IntKind.i64.wrap ((i : Int) + 1) = ((i + 1 : Nat) : Int) := by rw [wrap_i64 (by omega) (by omega)]; rfl
    have hw8 : IntKind.i64.wrap (8 * (i : Int)) = 8 * (i : Int) := wrap_i64 (by omega) (by omega)
    have hneg : ¬ (8 * (i : Int)) < 0 := by omega
    have hsh := oct_shift v i hv (by omega)
    have hln : (s ++ leB i v).length = s.length + i := by rw [List.length_append, leB_len]
    refine Btf @hlt ?_
    refine AWP.skip ?_
    refine Ev ?_
    refine AWP.seq ?_
    refine AWP.block ?_
    refine Rkf @e9 ?_
    refine Raf (jn5 @e0 @e1 @hw8 @hneg @hsh) (fun E K hE hK => ?_)
    refine BiR.of ?_
    rw [← hln]
    refine append_oct (y := [UInt8.ofNat (v / 256 ^ i % 256)]) (hr.ne (by omega)) ty_isIntT_25 (by (first | (simp -implicitDefEqProofs only [go_sem, ↓reduceIte, Nat.reduceEqDiff, Nat.reduceAdd, Nat.reduceLT, Nat.reduceLeDiff, reduceCtorEq, Int.toNat_natCast, srcA]; first | done | rfl) | rfl)) (by omega) (by simp) (fun cap' T' q1 q2 => ?_)
    refine Ev ?_
    refine hK _ _ _ ?_; clear hE hK K E
    refine Ev ?_
    refine Raf (jn2 @e9 @hw1) (fun E K hE hK => ?_); refine hK _ _ _ ?_; clear hE hK K E
    have hsn : (s ++ leB i v) ++ [UInt8.ofNat (v / 256 ^ i % 256)] = s ++ leB (i + 1) v := by rw [leB_snoc, List.append_assoc]
    rw [hsn]
    have hl2 : (s ++ leB (i + 1) v).length = s.length + (i + 1) := by rw [List.length_append, leB_len]
    refine ⟨wd - (i + 1), by omega, i + 1, by omega, rfl, ver + 1, cap', OctRow.cut ⟨T', by exact Er, by rw [hl2]; simp only [hln, List.length_cons, List.length_nil] at q1; omega, q2⟩ hid, fun x hx hne => ?_, by refine Evf @hln ?_; exact cutV_win hid, by exact Ecf @e1, by exact Ecf @e8, by exact Er⟩
    exact cutH_out1 hlow (by refine Evf (jn2 @hne (show ¬ x = b by omega)) ?_; exact ho x hx hne) hx
  · refine Bff @hlt ?_
    refine AWP.exit ?_
    refine Ev ?_
    have hil : i = wd := by omega
    subst hil
    obtain ⟨T, hb, h3, h4⟩ := hr
    have hln : (s ++ leB i v).length = s.length + i := by rw [List.length_append, leB_len]
    refine Rkf @e0 ?_
    refine AWP.ret ?_
    have hupd : ∀ x, x < b → hh x = upd h id (rowB ver ((s ++ leB i v).map encO) T) x := fun x hx => by
      by_cases hx2 : x = id
      · subst hx2; rw [upd_same, hb]
      · rw [upd_ne _ _ _ _ hx2]; exact ho x hx hx2
    refine Ends.turn hn H hid hupd (lowCs_app (lowCs_p _ _) (lowCs_mono (Nat.zero_le _) h4)) (r0 := .one (.win id ver 0 (s.length + i) cap))
      (by rw [show Tryd.f22.results.toList = [.tmp 6] from rfl]; exact Er) (.one (.inl ⟨rfl, by simp [lowC, hid]⟩)) ⟨ver, cap, T, ?_, ?_, h4, ?_, rfl⟩
    · rw [List.length_map]; omega
    · rw [List.length_map]; omega
    · rw [List.length_map, hln]

/-- what an own row of octets may be told of, ahead of a call -/
theorem OctRow.of {h : Heap} {id ver cap : Nat} {m : S} {T : List Cell} (h1 : h id = some (rowB ver (m.map encO) T)) (h2 : cap * 1 = (m.map encO).length * 1 + T.length) (h3 : lowCs 0 T = true) : OctRow h id ver cap m :=
  ⟨T, h1, by rw [List.length_map] at h2; omega, h3⟩

theorem file_ok (s : S) (f : Fl) (hf : FlBd f) (hs : s.length ≤ 900000) (h : Heap) (b id ver cap : Nat) (hid : id < b) (hr : OctRow h id ver cap s) :
    ACalls Tryd.prog 23 [.one (.win id ver 0 s.length cap), FlV f] h b 0 (rowR 1 ((s ++ fileB f).map encO) h id) := by
  refine ACalls.enter Tryd.func23 rfl (by simp [Tryd.ntmps23]) (fun ι w hn H => ?_)
  have hlow := H.lowCells
  obtain ⟨f1, f2, f3, f4, _⟩ := mayF_bd hf.may
  have f5 := hf.sum
  have hk := keyR_bd f.rank
  have wn : IntKind.u64.wrap (f.name.length : Int) = ((f.name.length : Nat) : Int) := by rw [wrap_u64]; omega
  have ws : IntKind.u64.wrap f.sum = ((f.sum.toNat : Nat) : Int) := by rw [wrap_u64]; omega
  have w1 : IntKind.u64.wrap f.blk = ((f.blk.toNat : Nat) : Int) := by rw [wrap_u64]; omega
  have w2 : IntKind.u64.wrap f.frm = ((f.frm.toNat : Nat) : Int) := by rw [wrap_u64]; omega
  have w3 : IntKind.u64.wrap f.len = ((f.len.toNat : Nat) : Int) := by rw [wrap_u64]; omega
  have hk' : keyR f.rank = (((keyR f.rank).toNat : Nat) : Int) := by omega
  have hne : ¬ id = b := by omega
  have hne' : ¬ b = id := by omega
  obtain ⟨T0, hb0, hc0, hl0⟩ := hr
  have sz := mkS_size f.name
  refine Rk ?_
  refine Re [id] (jn4 @hne @hne' @sz @wn) (fun K hK => ?_)
  refine CallD.use (put_ok s f.name.length 1 (by omega) (by decide) (by omega) _ _ id ver cap (Nat.lt_succ_of_lt hid) ⟨T0, by exact Erf (jn2 @hb0 @hne), hc0, hl0⟩) body_22 ?_
  rintro _ _ ⟨ver1, cap1, T1, g1, g2, g3, rfl, rfl⟩
  refine ⟨(sub_delH _ _).updN (delH_same _ _), ?_⟩
  refine Evf (jn3 @hne @hne' @delH_lit) ?_
  refine BiD.of ?_
  refine append_oct (y := f.name) (OctRow.of (upd_same _ _ _) g2 g3) ty_isIntT_9 (by simp only [srcA, if_true, mkS_size]; rfl) (by simp only [List.length_append, leB_len]; omega) (by omega) (fun cap2 T2 q1 q2 => ?_)
  refine ⟨((sub_delH _ _).updN (delH_same _ _)).updN (delH_same _ _), ?_⟩
  refine Evf (jn3 @hne @hne' @delH_lit) ?_
  refine hK _ _ _ ?_; clear hK K
  rw [show (s ++ leB 1 f.name.length).length + f.name.length = ((s ++ leB 1 f.name.length) ++ f.name).length by simp only [List.length_append]]
  obtain ⟨s1, hs1⟩ : ∃ s1, s1 = (s ++ leB 1 f.name.length) ++ f.name := ⟨_, rfl⟩
  rw [← hs1]
  have hs1l : s1.length ≤ 910000 := by rw [hs1]; simp only [List.length_append, leB_len]; omega
  refine Re [id] (jn2 @hne @hne') (fun K hK => ?_)
  refine CallD.use (rKeyR_ok f.rank _ _) body_37 ?_
  rintro _ _ ⟨rfl, rfl⟩
  refine ⟨sub_delH _ _, ?_⟩
  refine Evf (jn3 @hne @hne' @delH_lit) ?_
  rw [hk']
  refine CallD.use (put_ok s1 (keyR f.rank).toNat 8 (by rw [pow8]; omega) (by decide) (by omega) _ _ id (ver1 + 1) cap2 (Nat.lt_succ_of_lt hid) ⟨T2, upd_same _ _ _, by rw [hs1, List.length_append]; exact q1, q2⟩) body_22 ?_
  rintro _ _ ⟨ver3, cap3, T3, g1, g2, g3, rfl, rfl⟩
  refine ⟨sub_del, ?_⟩
  obtain ⟨s2, hs2⟩ : ∃ s2, s2 = s1 ++ leB 8 (keyR f.rank).toNat := ⟨_, rfl⟩
  rw [← hs2] at g1 g2 ⊢
  have hs2l : s2.length ≤ 920000 := by rw [hs2]; simp only [List.length_append, leB_len]; omega
  refine Evf (jn4 @hne @hne' @delH_lit @ws) ?_
  refine CallD.use (put_ok s2 f.sum.toNat 4 (by rw [pow8]; omega) (by decide) (by omega) _ _ id ver3 cap3 (Nat.lt_succ_of_lt hid) (OctRow.of (upd_same _ _ _) g2 g3)) body_22 ?_
  rintro _ _ ⟨ver4, cap4, T4, g1, g2, g3, rfl, rfl⟩
  refine ⟨sub_del, ?_⟩
  obtain ⟨s3, hs3⟩ : ∃ s3, s3 = s2 ++ leB 4 f.sum.toNat := ⟨_, rfl⟩
  rw [← hs3] at g1 g2 ⊢
  have hs3l : s3.length ≤ 930000 := by rw [hs3]; simp only [List.length_append, leB_len]; omega
  refine Evf (jn3 @hne @hne' @delH_lit) ?_
  refine hK _ _ _ ?_; clear hK K
  refine Rgf (jn3 @hne @hne' @w1) (fun E K hE hK => ?_)
  refine CallR.use (put_ok s3 f.blk.toNat 2 (by rw [pow8]; omega) (by decide) (by omega) _ _ id ver4 cap4 (Nat.lt_succ_of_lt hid) (OctRow.of (upd_same _ _ _) g2 g3)) body_22 ?_
  rintro _ _ ⟨ver5, cap5, T5, g1, g2, g3, rfl, rfl⟩
  obtain ⟨s4, hs4⟩ : ∃ s4, s4 = s3 ++ leB 2 f.blk.toNat := ⟨_, rfl⟩
  rw [← hs4] at g1 g2 ⊢
  have hs4l : s4.length ≤ 940000 := by rw [hs4]; simp only [List.length_append, leB_len]; omega
  refine Ev ?_
  refine hK _ _ _ ?_; clear hE hK K E
  refine Re [id] (jn3 @hne @hne' @w2) (fun K hK => ?_)
  refine CallD.use (put_ok s4 f.frm.toNat 3 (by rw [pow8]; omega) (by decide) (by omega) _ _ id ver5 cap5 (Nat.lt_succ_of_lt hid) (OctRow.of (upd_same _ _ _) g2 g3)) body_22 ?_
  rintro _ _ ⟨ver6, cap6, T6, g1, g2, g3, rfl, rfl⟩
  refine ⟨sub_del, ?_⟩
  obtain ⟨s5, hs5⟩ : ∃ s5, s5 = s4 ++ leB 3 f.frm.toNat := ⟨_, rfl⟩
  rw [← hs5] at g1 g2 ⊢
  have hs5l : s5.length ≤ 950000 := by rw [hs5]; simp only [List.length_append, leB_len]; omega
  refine Evf (jn4 @hne @hne' @delH_lit @w3) ?_
  refine CallD.use (put_ok s5 f.len.toNat 3 (by rw [pow8]; omega) (by decide) (by omega) _ _ id ver6 cap6 (Nat.lt_succ_of_lt hid) (OctRow.of (upd_same _ _ _) g2 g3)) body_22 ?_
  rintro _ _ ⟨ver7, cap7, T7, g1, g2, g3, rfl, rfl⟩
  refine ⟨sub_del, ?_⟩
  have he : s5 ++ leB 3 f.len.toNat = s ++ fileB f := by rw [hs5, hs4, hs3, hs2, hs1]; simp only [fileB, List.append_assoc]
  rw [he] at g1 g2 ⊢
  refine Ev ?_
  refine hK _ _ _ ?_; clear hK K
  refine AWP.ret ?_
  refine Ends.turn hn H hid (blk := rowB ver7 ((s ++ fileB f).map encO) T7) (fun x hx => ?_) (lowCs_app (lowCs_p _ _) (lowCs_mono (Nat.zero_le _) g3)) (r0 := .one (.win id ver7 0 ((s ++ fileB f).map encO).length cap7))
      (by rw [show Tryd.f23.results.toList = [.tmp 4] from rfl]; exact Er) (.one (.inl ⟨rfl, by simp [lowC, hid]⟩)) ⟨ver7, cap7, T7, g1, g2, g3, rfl, rfl⟩
  have hx' : x < b := hx
  by_cases hx2 : x = id
  · subst hx2; rw [upd_same]; exact Er
  · rw [upd_ne _ _ _ _ hx2]; exact Ecf (jn2 @hx2 (show ¬ x = b by omega))
end Go.Proofs.YthnhpbihgalgeaaDoor
