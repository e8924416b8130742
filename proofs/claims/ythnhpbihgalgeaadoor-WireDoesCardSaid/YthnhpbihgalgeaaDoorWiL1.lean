/-
  Walk of the law WireParts; Walk of the law WireApart.
-/
import Derived.Test.YthnhpbihgalgeaaDoorWiW1
namespace Go.Proofs.YthnhpbihgalgeaaDoor
set_option linter.unusedSimpArgs false
set_option linter.unusedVariables false
set_option linter.unnecessarySimpa false
open Go Am
set_option maxRecDepth 100000

theorem fewT_len {l : List Fl} (h : fewT l = true) : l.length ≤ 258 := by
  unfold fewT at h
  simp only [Bool.and_eq_true, Bool.or_eq_true, decide_eq_true_eq] at h
  omega
def wpaI (l : List Fl) (h : Heap) (b i : Nat) (st : St) : Prop :=
  ∃ ver cap, OctRow st.h b ver cap (leB 2 l.length ++ filesB (l.take i)) ∧ (∀ x, x < b → st.h x = h x) ∧ st.t 3 = BoolV true ∧ st.t 4 = OctV (tableB l) ∧ st.t 6 = .one (.win b ver 0 (leB 2 l.length ++ filesB (l.take i)).length cap) ∧ st.t 33 = FlsV l ∧ st.t 34 = IntV l.length ∧ st.t 35 = IntV (i : Nat)

theorem WireParts_ok (l : List Fl) (hs : ∀ f ∈ l, 0 ≤ f.sum ∧ f.sum < 4294967296) (hl : l.length ≤ maxLen) (h : Heap) (b : Nat) :
    ACalls Tryd.prog 3 [FlsV l] h b 0 (fun r h' => r = BoolV true ∧ h' = h) := by
  refine ACalls.enter Tryd.func3 rfl (by simp [Tryd.ntmps3]) (fun ι w hn H => ?_)
  have hlow := H.lowCells
  have hmx : maxLen ≤ 9223372036854775807 := by decide
  have hlm : (l.map encF).length = l.length := List.length_map _
  have fin : ∀ (t : Nat → AV) (hh : Heap) (n : Nat), t 2 = BoolV true → (∀ id, id < b → hh id = h id) → Am.Ends Tryd.prog ⟨Tryd.f3.ntmps, b, ι, h, w, x0⟩ Tryd.f3 0 (fun r h' => r = BoolV true ∧ h' = h) ⟨t, hh, n⟩ := by
    intro t hh n ht ho
    exact Ends.pure hn H ho (r0 := BoolV true) (by rw [show Tryd.f3.results.toList = [.tmp 2] from rfl]; exact Ecf @ht) (.v _) ⟨rfl, rfl⟩
  refine Rk ?_
  refine Rg (fun E K hE hK => ?_)
  refine Us (live_ok _ _) body_8 ?_
  refine hK _ _ _ ?_; clear hE hK K E
  refine AWP.seq ?_
  refine Rg (fun E K hE hK => ?_)
  refine Us (fewT_ok l (by omega) _ _) body_9 ?_
  refine hK _ _ _ ?_; clear hE hK K E
  cases c0 : fewT l
  · refine Btf @c0 ?_
    refine Rk ?_
    refine AWP.ret ?_
    refine Ev ?_
    exact fin _ _ _ (by exact Er) (fun _ _ => rfl)
  have hll : l.length ≤ 258 := fewT_len c0
  refine Bsf @c0 ?_
  refine Rg (fun E K hE hK => ?_)
  refine Us (bytes_ok l hs (by omega) _ _) body_10 ?_
  refine hK _ _ _ ?_; clear hE hK K E
  refine AWP.seq ?_
  by_cases c1 : checkT l = 0
  case neg =>
    have hbr : bytesR l = ([], checkT l) := by unfold bytesR; rw [if_neg c1]
    refine Rkf (jn2 @hbr @c1) ?_
    refine Bt ?_
    refine Rk ?_
    refine AWP.ret ?_
    refine Ev ?_
    exact fin _ _ _ (by exact Er) (fun _ _ => rfl)
  have hbr : bytesR l = (tableB l, 0) := by unfold bytesR; rw [if_pos c1]
  obtain ⟨hbd, h256⟩ := check_bd c1 hs
  refine Rkf @hbr ?_
  refine Bs ?_
  have q1 : IntKind.u8.wrap ((l.length : Int).tmod 256) = ((UInt8.ofNat (l.length % 256)).toNat : Int) := by
    rw [wrap_u8, Int.tmod_eq_emod_of_nonneg (by omega)]; simp
  have q2 : IntKind.u8.wrap (IntKind.i64.wrap ((l.length : Int).tdiv 256)) = ((UInt8.ofNat (l.length / 256 % 256)).toNat : Int) := by
    rw [IntWalk.i64_quo _ _ ⟨by omega, by omega, by decide⟩, wrap_u8]; simp
  have h256' : ¬ (256 : Int) = 0 := by decide
  refine Rgf (jn4 @hlm @q1 @q2 @h256') (fun E K hE hK => ?_)
  refine ⟨by decide, ?_⟩
  refine hK _ _ _ ?_; clear hE hK K E
  refine AWP.seq ?_
  refine Rkf @hlm ?_
  refine AWP.block ?_
  refine AWP.loopM 1 (fun m st => ∃ i, i ≤ l.length ∧ m = l.length - i ∧ wpaI l h b i st) l.length rfl ⟨0, Nat.zero_le _, rfl, 0, 2, ?_, Ou, by exact Er, by exact Er, by simp only [List.take_zero, filesB, List.append_nil]; exact Er, by exact Er, by exact Er, by exact Er⟩ ?_
  · simp only [List.take_zero, filesB, List.append_nil]
    exact ⟨[], upd_same _ _ _, rfl, rfl⟩
  rintro m ⟨t, hh, n⟩ ⟨i, hi, rfl, ver, cap, hr, ho, e3, e4, e6, e33, e34, e35⟩ hn1
  simp only at hr ho e3 e4 e6 e33 e34 e35 hn1
  subst hn1
  refine Rkf (jn2 @e34 @e35) ?_
  refine AWP.seq ?_
  by_cases hlt : (i : Int) < l.length
  · have hw1 : IntKind.i64.wrap ((i : Int) + 1) = ((i + 1 : Nat) : Int) := by rw [wrap_i64 (by omega) (by omega)]; rfl
    have hi2 : i < l.length := by omega
    have hge := encF_getD l i hi2
    obtain ⟨f, hf⟩ : ∃ f, l[i] = f := ⟨_, rfl⟩
    have hfm : f ∈ l := by rw [← hf]; exact List.getElem_mem hi2
    rw [hf] at hge
    have hsn := filesB_snoc l i hi2
    rw [hf] at hsn
    have hsl : (leB 2 l.length ++ filesB (l.take i)).length ≤ 100000 := by
      have h1 := filesB_len (l := l.take i) (fun x hx => hbd x (List.mem_of_mem_take hx))
      rw [List.length_take] at h1
      simp only [List.length_append, leB_len]; omega
    have he : leB 2 l.length ++ filesB (l.take (i + 1)) = (leB 2 l.length ++ filesB (l.take i)) ++ fileB f := by rw [hsn, List.append_assoc]
    have hob : oneB f = (fileB f, 0) := by unfold oneB; rw [checkT_one, (hbd f hfm).may]; rfl
    have hfl := fileB_len f
    have sz := mkS_size f.name
    have hf4 := (mayF_bd (hbd f hfm).may).2.2.2.1
    have w21 : IntKind.i64.wrap (21 + (f.name.length : Int)) = 21 + (f.name.length : Int) := wrap_i64 (by omega) (by omega)
    have hd : decide (((fileB f).length : Int) = 21 + (f.name.length : Int)) = true := decide_eq_true (by omega)
    refine Btf @hlt ?_
    refine AWP.skip ?_
    refine Ev ?_
    refine AWP.seq ?_
    refine AWP.block ?_
    refine Rgf (jn5 @e33 @e35 @hlm @hlt @hge) (fun E K hE hK => ?_)
    refine ⟨by omega, ?_⟩
    refine hK _ _ _ ?_; clear hE hK K E
    refine Rg (fun E K hE hK => ?_)
    refine Us (one_ok f (hs f hfm) _ _) body_11 ?_
    refine Evf @hob ?_
    refine hK _ _ _ ?_; clear hE hK K E
    refine AWP.seq ?_
    refine Rkf (jn3 @sz @w21 @hd) ?_
    refine Bs ?_
    refine Raf @e6 (fun E K hE hK => ?_)
    refine BiR.of ?_
    refine append_oct (y := fileB f) (hr.ne (by omega)) ty_isIntT_25 (by simp only [srcA, if_true, List.length_map, flat_oct]) (by omega) (by omega) (fun cap' T' q1 q2 => ?_)
    refine Ev ?_
    refine hK _ _ _ ?_; clear hE hK K E
    refine Ev ?_
    refine Raf (jn2 @e35 @hw1) (fun E K hE hK => ?_); refine hK _ _ _ ?_; clear hE hK K E
    have hl2 : (leB 2 l.length ++ filesB (l.take i)).length + (fileB f).length = (leB 2 l.length ++ filesB (l.take (i + 1))).length := by rw [he]; simp only [List.length_append]
    rw [← he]
    refine ⟨(by decide : 1 ≤ 2), l.length - (i + 1), by omega, i + 1, by omega, rfl, ver + 1, cap', OctRow.cut ⟨T', by exact Er, by rw [← hl2]; exact q1, q2⟩ (Nat.lt_succ_self _), cutH_outer (Nat.le_succ _) (Ouf @ho) hlow, by exact Ecf @e3, by exact Ecf @e4, by rw [← hl2]; refine Ev ?_; exact cutV_win (Nat.lt_succ_self _), by exact Ecf @e33, by exact Ecf @e34, by exact Er⟩
  · refine Bff @hlt ?_
    refine AWP.exit ?_
    refine Ev ?_
    have hil : i = l.length := by omega
    subst hil
    rw [List.take_length] at hr e6
    obtain ⟨T2, hb, h3, h4⟩ := hr
    have hd : decide (tableB l = leB 2 l.length ++ filesB l) = true := decide_eq_true rfl
    refine Rgf (jn3 @e3 @e4 @e6) (fun E K hE hK => ?_)
    refine Us (sameB_lend (tableB l) (leB 2 l.length ++ filesB l) hb _) body_12 ?_
    refine Evf @hd ?_
    refine hK _ _ _ ?_; clear hE hK K E
    refine AWP.ret ?_
    exact fin _ _ _ (by exact Er) ho
end Go.Proofs.YthnhpbihgalgeaaDoor

namespace Go.Proofs.YthnhpbihgalgeaaDoor
set_option linter.unusedSimpArgs false
set_option linter.unusedVariables false
set_option linter.unnecessarySimpa false
open Go Am
set_option maxRecDepth 100000

theorem mayT_one {f : Fl} (h : checkT [f] = 0) : mayF f = true := by
  rw [checkT_one] at h
  by_cases c : mayF f = true
  · exact c
  · rw [if_neg c] at h; exact absurd h (by decide)
theorem same1_lend (f g : Fl) {hh : Heap} {id id2 : Nat} (hb : hh id = some ⟨0, (encF f).map .p⟩) (hb2 : hh id2 = some ⟨0, (encF g).map .p⟩) (b : Nat) :
    ACalls Tryd.prog 13 [.one (.win id 0 0 1 1), .one (.win id2 0 0 1 1)] hh b 0 (fun r h' => r = BoolV (sameL keyR [f] [g]) ∧ h' = hh) :=
  (tSameG_ok [f] [g] (by simp) noH b).lend (.cons (.one (view_fl1 f rfl hb)) (.cons (.one (view_fl1 g rfl hb2)) .nil)) (.one _)

theorem WireApart_ok (x y : List Fl) (f g : Fl) (hx : ∀ f ∈ x, 0 ≤ f.sum ∧ f.sum < 4294967296) (hy : ∀ f ∈ y, 0 ≤ f.sum ∧ f.sum < 4294967296) (hf : 0 ≤ f.sum ∧ f.sum < 4294967296) (hg : 0 ≤ g.sum ∧ g.sum < 4294967296)
    (lx : x.length ≤ maxLen) (ly : y.length ≤ maxLen) (lf : f.name.length ≤ maxLen) (lg : g.name.length ≤ maxLen) (h : Heap) (b : Nat) :
    ACalls Tryd.prog 4 [FlsV x, FlsV y, FlV f, FlV g] h b 0 (fun r h' => r = BoolV true ∧ h' = h) := by
  refine ACalls.enter Tryd.func4 rfl (by simp [Tryd.ntmps4]) (fun ι w hn H => ?_)
  have hlow := H.lowCells
  have hmx : maxLen ≤ 9223372036854775807 := by decide
  have s1 := mkS_size f.name
  have s2 := mkS_size g.name
  have fin : ∀ (t : Nat → AV) (hh : Heap) (n : Nat), t 8 = BoolV true → (∀ id, id < b → hh id = h id) → Am.Ends Tryd.prog ⟨Tryd.f4.ntmps, b, ι, h, w, x0⟩ Tryd.f4 0 (fun r h' => r = BoolV true ∧ h' = h) ⟨t, hh, n⟩ := by
    intro t hh n ht ho
    exact Ends.pure hn H ho (r0 := BoolV true) (by rw [show Tryd.f4.results.toList = [.tmp 8] from rfl]; exact Ecf @ht) (.v _) ⟨rfl, rfl⟩
  refine Rk ?_
  refine Rg (fun E K hE hK => ?_)
  refine Us (live_ok _ _) body_8 ?_
  refine hK _ _ _ ?_; clear hE hK K E
  refine AWP.seq ?_
  cases c0 : fewT x
  · refine Rg (fun E K hE hK => ?_)
    refine Us (fewT_ok x (by omega) _ _) body_9 ?_
    refine Evf @c0 ?_
    refine hK _ _ _ ?_; clear hE hK K E
    refine Bt ?_
    refine Rk ?_
    refine AWP.ret ?_
    refine Ev ?_
    exact fin _ _ _ (by exact Er) Ou
  cases c1 : fewT y
  · refine Rg (fun E K hE hK => ?_)
    refine Us (fewT_ok x (by omega) _ _) body_9 ?_
    refine Evf @c0 ?_
    refine Us (fewT_ok y (by omega) _ _) body_9 ?_
    refine Evf @c1 ?_
    refine hK _ _ _ ?_; clear hE hK K E
    refine Bt ?_
    refine Rk ?_
    refine AWP.ret ?_
    refine Ev ?_
    exact fin _ _ _ (by exact Er) Ou
  have lx2 := fewT_len c0
  have ly2 := fewT_len c1
  by_cases c2 : (200 : Int) < f.name.length
  · refine Rg (fun E K hE hK => ?_)
    refine Us (fewT_ok x (by omega) _ _) body_9 ?_
    refine Evf @c0 ?_
    refine Us (fewT_ok y (by omega) _ _) body_9 ?_
    refine Evf (jn3 @c1 @s1 @c2) ?_
    refine hK _ _ _ ?_; clear hE hK K E
    refine Bt ?_
    refine Rk ?_
    refine AWP.ret ?_
    refine Ev ?_
    exact fin _ _ _ (by exact Er) Ou
  by_cases c3 : (200 : Int) < g.name.length
  · refine Rg (fun E K hE hK => ?_)
    refine Us (fewT_ok x (by omega) _ _) body_9 ?_
    refine Evf @c0 ?_
    refine Us (fewT_ok y (by omega) _ _) body_9 ?_
    refine Evf (jn5 @c1 @s1 @c2 @s2 @c3) ?_
    refine hK _ _ _ ?_; clear hE hK K E
    refine Bt ?_
    refine Rk ?_
    refine AWP.ret ?_
    refine Ev ?_
    exact fin _ _ _ (by exact Er) Ou
  refine Rg (fun E K hE hK => ?_)
  refine Us (fewT_ok x (by omega) _ _) body_9 ?_
  refine Evf @c0 ?_
  refine Us (fewT_ok y (by omega) _ _) body_9 ?_
  refine Evf (jn5 @c1 @s1 @c2 @s2 @c3) ?_
  refine hK _ _ _ ?_; clear hE hK K E
  refine Bs ?_
  refine Rg (fun E K hE hK => ?_)
  refine Us (bytes_ok x hx (by omega) _ _) body_10 ?_
  refine hK _ _ _ ?_; clear hE hK K E
  refine Rg (fun E K hE hK => ?_)
  refine Us (bytes_ok y hy (by omega) _ _) body_10 ?_
  refine hK _ _ _ ?_; clear hE hK K E
  refine AWP.mid (fun s' => s'.n = 2 ∧ s'.h = upd (upd h b ⟨0, (encF f).map .p⟩) (b + 1) ⟨0, (encF g).map .p⟩ ∧ s'.t 6 = .one (.ptr b 0 0) ∧ s'.t 7 = .one (.ptr (b + 1) 0 0) ∧ s'.t 9 = BoolV true) ?_ ?_
  · by_cases d1 : checkT x = 0
    case neg =>
      have hbx : bytesR x = ([], checkT x) := by unfold bytesR; rw [if_neg d1]
      refine Rkf (jn2 @hbx @d1) ?_
      refine Bf ?_
      refine AWP.skip ⟨rfl, rfl, by exact Er, by exact Er, by exact Er⟩
    have hbx : bytesR x = (tableB x, 0) := by unfold bytesR; rw [if_pos d1]
    by_cases d2 : checkT y = 0
    case neg =>
      have hby : bytesR y = ([], checkT y) := by unfold bytesR; rw [if_neg d2]
      refine Rkf (jn3 @hbx @hby @d2) ?_
      refine Bf ?_
      refine AWP.skip ⟨rfl, rfl, by exact Er, by exact Er, by exact Er⟩
    have hby : bytesR y = (tableB y, 0) := by unfold bytesR; rw [if_pos d2]
    obtain ⟨b1, n1⟩ := check_bd d1 hx
    obtain ⟨b2, n2⟩ := check_bd d2 hy
    have hiff : decide (tableB x = tableB y) = sameL keyR x y := by
      rw [Bool.eq_iff_iff, decide_eq_true_eq]; exact tableB_iff b1 b2 n1 n2
    refine Rgf (jn2 @hbx @hby) (fun E K hE hK => ?_)
    refine Us (sameB_ok (tableB x) (tableB y) _ _) body_12 ?_
    refine Us (tSameG_ok x y (by omega) _ _) body_13 ?_
    rw [hiff]
    have hbb : ∀ v : Bool, (v != v) = false := fun v => by cases v <;> rfl
    refine Evf @hbb ?_
    refine hK _ _ _ ?_; clear hE hK K E
    refine Bf ?_
    refine AWP.skip ⟨rfl, rfl, by exact Er, by exact Er, by exact Er⟩
  rintro ⟨t, hh, n⟩ ⟨hn0, hh0, e6, e7, e9⟩
  simp only at hn0 hh0 e6 e7 e9
  subst hn0
  subst hh0
  refine Rgf @e6 (fun E K hE hK => ?_)
  refine Us (one_ok f hf _ _) body_11 ?_
  refine hK _ _ _ ?_; clear hE hK K E
  refine Rgf @e7 (fun E K hE hK => ?_)
  refine Us (one_ok g hg _ _) body_11 ?_
  refine hK _ _ _ ?_; clear hE hK K E
  by_cases d1 : checkT [f] = 0
  case neg =>
    have h1 : oneB f = ([], checkT [f]) := by unfold oneB; rw [if_neg d1]
    refine AWP.seqRegDG [] [] [] mixed (drawF_ok (by kernel_rfl)) (by kernel_rfl) (fun K hK => ?_); simp -implicitDefEqProofs only [go_sem, ↓reduceIte, Nat.reduceEqDiff, Nat.reduceAdd, Nat.reduceLT, Nat.reduceLeDiff, reduceCtorEq, Int.toNat_natCast, h1, d1, e9]
    repeat (first | (refine Gdf 76 (jn3 @h1 @d1 @e9) ?_) | (refine Gdf 79 (jn2 @h1 @d1) ?_) | (refine Gdf 83 (jn2 @h1 @d1) ?_))
    refine hK _ _ _ ?_; clear hK K
    refine AWP.ret ?_
    exact fin _ _ _ (by exact Er) Ou
  by_cases d2 : checkT [g] = 0
  case neg =>
    have h1 : oneB f = (fileB f, 0) := by unfold oneB; rw [if_pos d1]
    have h2 : oneB g = ([], checkT [g]) := by unfold oneB; rw [if_neg d2]
    refine AWP.seqRegDG [] [] [] mixed (drawF_ok (by kernel_rfl)) (by kernel_rfl) (fun K hK => ?_); simp -implicitDefEqProofs only [go_sem, ↓reduceIte, Nat.reduceEqDiff, Nat.reduceAdd, Nat.reduceLT, Nat.reduceLeDiff, reduceCtorEq, Int.toNat_natCast, h1, h2, d2, e9]
    repeat (first | (refine Gdf 76 (jn4 @h1 @h2 @d2 @e9) ?_) | (refine Gdf 79 (jn3 @h1 @h2 @d2) ?_) | (refine Gdf 83 (jn2 @h1 @d2) ?_))
    refine hK _ _ _ ?_; clear hK K
    refine AWP.ret ?_
    exact fin _ _ _ (by exact Er) Ou
  have h1 : oneB f = (fileB f, 0) := by unfold oneB; rw [if_pos d1]
  have h2 : oneB g = (fileB g, 0) := by unfold oneB; rw [if_pos d2]
  have hiff : decide (fileB f = fileB g) = sameL keyR [f] [g] := by
    rw [Bool.eq_iff_iff, decide_eq_true_eq]
    constructor
    · intro e
      have := (fileB_inj (u := []) (v := []) ⟨mayT_one d1, hf⟩ ⟨mayT_one d2, hg⟩ (by rw [e])).1
      show (sameX keyR f g && true) = true
      rw [this]; rfl
    · intro e
      have e' : (sameX keyR f g && true) = true := e
      exact fileB_same (by simpa using e')
  have hbb : ∀ v : Bool, (v == v) = true := fun v => by cases v <;> rfl
  refine AWP.seqRegDG [] [] [] mixed (drawF_ok (by kernel_rfl)) (by kernel_rfl) (fun K hK => ?_); simp -implicitDefEqProofs only [go_sem, ↓reduceIte, Nat.reduceEqDiff, Nat.reduceAdd, Nat.reduceLT, Nat.reduceLeDiff, reduceCtorEq, Int.toNat_natCast, h1, h2, e9, e6, e7]
  repeat (first | (refine Gdf 76 (jn5 @h1 @h2 @e9 @e6 @e7) ?_) | (refine Gdf 79 (jn4 @h1 @h2 @e6 @e7) ?_) | (refine Gdf 83 (jn4 @h1 @h2 @e6 @e7) ?_))
  refine Ud (sameB_ok (fileB f) (fileB g) _ _) body_12 ?_
  rw [hiff]
  repeat (first | (refine Gdf 83 (jn2 @e6 @e7) ?_) | (refine ⟨by decide, ?_⟩))
  refine Ud (tSameG_ok [f] [g] (by simp) _ _) body_13 ?_
  repeat (first | (refine Gdf 76 @hbb ?_) | (refine Gdf 83 @hbb ?_))
  refine hK _ _ _ ?_; clear hK K
  refine AWP.ret ?_
  exact fin _ _ _ (by exact Erf @hbb) Ou
end Go.Proofs.YthnhpbihgalgeaaDoor
