/-
  Walks of package wire: Bytes, One, Long; texts compared; the example.
-/
import Derived.Test.YthnhpbihgalgeaaDoorWiW1
namespace Go.Proofs.YthnhpbihgalgeaaDoor
set_option linter.unusedSimpArgs false
set_option linter.unusedVariables false
set_option linter.unnecessarySimpa false
open Go Am
set_option maxRecDepth 100000

theorem sameB_ok (s u : S) (h : Heap) (b : Nat) : ACalls Tryd.prog 12 [OctV s, OctV u] h b 0 (fun r h' => r = BoolV (decide (s = u)) ∧ h' = h) := by
  refine ACalls.enter Tryd.func12 rfl (by simp [Tryd.ntmps12]) (fun ι w hn H => ?_)
  have o1 := octE_map s
  have o2 := octE_map u
  have ho : octT Tryd.prog 25 9 = true := by kernel_rfl
  refine Rk ?_
  refine Rkf (jn3 @o1 @o2 @ho) ?_
  refine AWP.ret ?_
  exact Ends.pure hn H (fun _ _ => rfl) (r0 := BoolV (decide (s = u))) (by rw [show Tryd.f12.results.toList = [.tmp 4] from rfl]; exact Er) (.v _) ⟨rfl, rfl⟩

theorem put_nil_ok (v wd : Nat) (hv : v < 256 ^ 8) (hw : wd ≤ 8) (h : Heap) (b : Nat) :
    ACalls Tryd.prog 22 [.one (.p (.v (.slice none 0 0))), U64V v, IntV wd] h b 1 (rowR 1 ((leB wd v).map encO) h b) := by
  refine (ACalls.nilArg (al := []) (put_ok [] v wd hv hw (by decide) (upd h b ⟨0, []⟩) (b + 1) b 0 0 (Nat.lt_succ_self _) ⟨[], upd_same _ _ _, rfl, rfl⟩)).mono ?_
  rintro r h' ⟨ver, cap, T, g1, g2, g3, g4, rfl⟩
  exact ⟨ver, cap, T, g1, g2, g3, g4, by rw [upd_upd]; rfl⟩
theorem file_nil_ok (f : Fl) (hf : FlBd f) (h : Heap) (b : Nat) :
    ACalls Tryd.prog 23 [.one (.p (.v (.slice none 0 0))), FlV f] h b 1 (rowR 1 ((fileB f).map encO) h b) := by
  refine (ACalls.nilArg (al := []) (file_ok [] f hf (by decide) (upd h b ⟨0, []⟩) (b + 1) b 0 0 (Nat.lt_succ_self _) ⟨[], upd_same _ _ _, rfl, rfl⟩)).mono ?_
  rintro r h' ⟨ver, cap, T, g1, g2, g3, g4, rfl⟩
  exact ⟨ver, cap, T, g1, g2, g3, g4, by rw [upd_upd]; rfl⟩

theorem check_nil (h : Heap) (b : Nat) : ACalls Tryd.prog 21 [.one (.p (.v (.slice none 0 0)))] h b 0 (fun r h' => r = IntV 0 ∧ h' = h) := by
  have c := tCheck_ok [] (by decide) (delP h (fun _ => false)) b
  have c' := c.seal (fun _ => false) (.cons (.one (.p (.nil 6))) .nil)
  exact c'

def wbI (l : List Fl) (h : Heap) (b i : Nat) (st : St) : Prop :=
  ∃ ver cap, OctRow st.h b ver cap (leB 2 l.length ++ filesB (l.take i)) ∧ (∀ x, x < b → st.h x = h x) ∧ st.t 5 = .one (.win b ver 0 (leB 2 l.length ++ filesB (l.take i)).length cap) ∧ st.t 17 = FlsV l ∧ st.t 18 = IntV l.length ∧ st.t 19 = IntV (i : Nat)

theorem filesB_len {l : List Fl} (h : ∀ f ∈ l, FlBd f) : (filesB l).length ≤ 117 * l.length := by
  induction l with
  | nil => simp [filesB]
  | cons f l ih =>
    have h1 := (mayF_bd (h f (by simp)).may).2.2.2.1
    have h2 := ih (fun x hx => h x (by simp [hx]))
    have h3 := fileB_len f
    simp only [filesB, List.length_append, List.length_cons] at *
    omega

theorem bytes_ok (l : List Fl) (hs : ∀ f ∈ l, 0 ≤ f.sum ∧ f.sum < 4294967296) (hl : l.length ≤ 1000000) (h : Heap) (b : Nat) :
    ACalls Tryd.prog 10 [FlsV l] h b 0 (fun r h' => r = .tup [OctV (bytesR l).1, IntV (bytesR l).2] ∧ h' = h) := by
  refine ACalls.enter Tryd.func10 rfl (by simp [Tryd.ntmps10]) (fun ι w hn H => ?_)
  have hlow := H.lowCells
  have hlm : (l.map encF).length = l.length := List.length_map _
  refine Rk ?_
  refine AWP.seq ?_
  refine Rg (fun E K hE hK => ?_)
  refine Us (tCheck_ok l hl _ _) body_21 ?_
  refine hK _ _ _ ?_; clear hE hK K E
  by_cases c1 : checkT l = 0
  case neg =>
    refine Rkf @c1 ?_
    refine Bt ?_
    refine Rk ?_
    refine AWP.ret ?_
    refine Ev ?_
    exact Ends.pure hn H (fun _ _ => rfl) (r0 := .tup [.one (.p (.v (.slice none 0 0))), IntV (checkT l)]) (by rw [show Tryd.f10.results.toList = [.tmp 2, .tmp 3] from rfl]; exact Er) (frz_tup2 (.one (frz_nil 1)) (.v _)) ⟨by unfold bytesR; rw [if_neg c1]; rfl, rfl⟩
  obtain ⟨hbd, h256⟩ := check_bd c1 hs
  have wn : IntKind.u64.wrap (l.length : Int) = ((l.length : Nat) : Int) := by rw [wrap_u64]; omega
  refine Rkf @c1 ?_
  refine Bs ?_
  refine Rgf (jn2 @hlm @wn) (fun E K hE hK => ?_)
  refine CallR.use (put_nil_ok l.length 2 (by rw [pow8]; omega) (by decide) _ _) body_22 ?_
  rintro _ _ ⟨ver, cap, T, g1, g2, g3, rfl, rfl⟩
  refine Ev ?_
  refine hK _ _ _ ?_; clear hE hK K E
  refine AWP.seq ?_
  refine Rkf @hlm ?_
  refine AWP.block ?_
  refine AWP.loopM 1 (fun m st => ∃ i, i ≤ l.length ∧ m = l.length - i ∧ wbI l h b i st) l.length rfl ⟨0, Nat.zero_le _, rfl, ver, cap, by simp only [List.take_zero, filesB, List.append_nil]; exact OctRow.of (upd_same _ _ _) g2 g3, Ou, by simp only [List.take_zero, filesB, List.append_nil]; exact Er, by exact Er, by exact Er, by exact Er⟩ ?_
  rintro m ⟨t, hh, n⟩ ⟨i, hi, rfl, ver, cap, hr, ho, e5, e17, e18, e19⟩ hn1
  simp only at hr ho e5 e17 e18 e19 hn1
  subst hn1
  refine Rkf (jn2 @e18 @e19) ?_
  refine AWP.seq ?_
  by_cases hlt : (i : Int) < l.length
  · have hw1 : IntKind.i64.wrap ((i : Int) + 1) = ((i + 1 : Nat) : Int) := by rw [wrap_i64 (by omega) (by omega)]; rfl
    have hi2 : i < l.length := by omega
    have hge := encF_getD l i hi2
    obtain ⟨f, hf⟩ : ∃ f, l[i] = f := ⟨_, rfl⟩
    have hfm : f ∈ l := by rw [← hf]; exact List.getElem_mem hi2
    rw [hf] at hge
    have hsn := filesB_snoc l i hi2
    rw [hf] at hsn
    have hsl : (leB 2 l.length ++ filesB (l.take i)).length ≤ 100000 := by
      have h1 := filesB_len (l := l.take i) (fun x hx => hbd x (List.mem_of_mem_take hx))
      rw [List.length_take] at h1
      simp only [List.length_append, leB_len]; omega
    have he : leB 2 l.length ++ filesB (l.take (i + 1)) = (leB 2 l.length ++ filesB (l.take i)) ++ fileB f := by rw [hsn, List.append_assoc]
    refine Btf @hlt ?_
    refine AWP.skip ?_
    refine Ev ?_
    refine AWP.seq ?_
    refine AWP.block ?_
    refine Rgf (jn5 @e17 @e19 @hlm @hlt @hge) (fun E K hE hK => ?_)
    refine ⟨by omega, ?_⟩
    refine hK _ _ _ ?_; clear hE hK K E
    refine Raf @e5 (fun E K hE hK => ?_)
    refine CallR.use (file_ok (leB 2 l.length ++ filesB (l.take i)) f (hbd f hfm) (by omega) _ _ b ver cap (Nat.lt_succ_of_lt (Nat.lt_succ_self _)) (hr.ne (by omega))) body_23 ?_
    rintro _ _ ⟨ver2, cap2, T2, g1, g2, g3, rfl, rfl⟩
    rw [← he] at g1 g2 ⊢
    refine Ev ?_
    refine hK _ _ _ ?_; clear hE hK K E
    refine Ev ?_
    refine Raf (jn2 @e19 @hw1) (fun E K hE hK => ?_); refine hK _ _ _ ?_; clear hE hK K E
    refine ⟨(by decide : 1 ≤ 2), l.length - (i + 1), by omega, i + 1, by omega, rfl, ver2, cap2, OctRow.cut (OctRow.of (by exact Er) g2 g3) (Nat.lt_succ_self _), cutH_outer (Nat.le_succ _) (Ouf @ho) hlow, by refine Ev ?_; exact cutV_win (Nat.lt_succ_self _), by exact Ecf @e17, by exact Ecf @e18, by exact Er⟩
  · refine Bff @hlt ?_
    refine AWP.exit ?_
    refine Ev ?_
    have hil : i = l.length := by omega
    subst hil
    rw [List.take_length] at hr e5
    have hbr : bytesR l = (tableB l, 0) := by unfold bytesR; rw [if_pos c1]
    obtain ⟨T2, hb, h3, h4⟩ := hr
    refine Rkf @e5 ?_
    refine AWP.frz 2 (cap := cap) (len := (tableB l).length) (off := 0) (id := b) 1 ((tableB l).map encO) (by exact Er) hb rfl (by rw [List.length_map]) (okEs_oct _).len (row_cells (okEs_oct _) ver _) ?_
    refine AWP.ret ?_
    refine Ev ?_
    exact Ends.pure hn H (fun id (hid : id < b) => by simp -implicitDefEqProofs only [go_sem, ↓reduceIte, Nat.reduceEqDiff, Nat.reduceAdd, Nat.reduceLT, Nat.reduceLeDiff, reduceCtorEq, Int.toNat_natCast, delH, show ¬ id = b by omega]; exact ho id hid) (r0 := .tup [OctV (tableB l), IntV 0]) (by rw [show Tryd.f10.results.toList = [.tmp 2, .tmp 3] from rfl]; exact Er) (frz_tup2 (frzV.p _) (.v _)) ⟨by rw [hbr], rfl⟩

end Go.Proofs.YthnhpbihgalgeaaDoor
