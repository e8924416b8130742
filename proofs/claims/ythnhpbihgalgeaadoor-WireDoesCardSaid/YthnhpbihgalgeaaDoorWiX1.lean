/-
  Walks of package wire: From; Walks of package wire: Long; Walks of package wire: Bytes of an own row, From whose answer is an own row.
-/
import Derived.Test.YthnhpbihgalgeaaDoorWiW7
import Derived.Test.YthnhpbihgalgeaaDoorWiPure
namespace Go.Proofs.YthnhpbihgalgeaaDoor
set_option linter.unusedSimpArgs false
set_option linter.unusedVariables false
set_option linter.unnecessarySimpa false
open Go Am
set_option maxRecDepth 100000

theorem bytesEq_ok (s u : S) (h : Heap) (b : Nat) : ACalls Tryd.prog 27 [OctV s, OctV u] h b 0 (fun r h' => r = BoolV (decide (s = u)) ∧ h' = h) := by
  refine ACalls.enter Tryd.func27 rfl (by simp [Tryd.ntmps27]) (fun ι w hn H => ?_)
  have o1 := octE_map s
  have o2 := octE_map u
  have ho : octT Tryd.prog 25 9 = true := by kernel_rfl
  refine Rk ?_
  refine Rkf (jn3 @o1 @o2 @ho) ?_
  refine AWP.ret ?_
  exact Ends.pure hn H (fun _ _ => rfl) (r0 := BoolV (decide (s = u))) (by rw [show Tryd.f27.results.toList = [.tmp 4] from rfl]; exact Er) (.v _) ⟨rfl, rfl⟩

theorem bytesR_sound {l : List Fl} {s : S} (h : bytesR l = (s, 0)) : checkT l = 0 ∧ s = tableB l := by
  unfold bytesR at h
  split at h
  · rename_i c; exact ⟨c, (Prod.mk.inj h).1.symm⟩
  · rename_i c; exact absurd (Prod.mk.inj h).2 c

theorem from_ok (s : S) (hs : s.length ≤ maxLen) (h : Heap) (b : Nat) : ACalls Tryd.prog 14 [OctV s] h b 0 (fun r h' => r = .tup [FlsV (fromR s).1, IntV (fromR s).2] ∧ h' = h) := by
  refine ACalls.enter Tryd.func14 rfl (by simp [Tryd.ntmps14]) (fun ι w hn H => ?_)
  have hlm : (s.map encO).length = s.length := List.length_map _
  have fin : ∀ (t : Nat → AV) (hh : Heap) (n : Nat) (e : Int), t 2 = .one (.p (.v (.slice none 0 0))) → t 3 = IntV e → (∀ id, id < b → hh id = h id) → ([], e) = fromR s → Am.Ends Tryd.prog ⟨Tryd.f14.ntmps, b, ι, h, w, x0⟩ Tryd.f14 0 (fun r h' => r = .tup [FlsV (fromR s).1, IntV (fromR s).2] ∧ h' = h) ⟨t, hh, n⟩ := by
    intro t hh n e ht ht2 ho hv
    exact Ends.pure hn H ho (r0 := .tup [.one (.p (.v (.slice none 0 0))), IntV e]) (by rw [show Tryd.f14.results.toList = [.tmp 2, .tmp 3] from rfl]; exact Ecf (jn2 @ht @ht2)) (frz_tup2 (.one (frz_nil 6)) (.v _)) ⟨by rw [← hv]; rfl, rfl⟩
  have fin2 : ∀ (t : Nat → AV) (hh : Heap) (n : Nat) (m : List Fl), t 2 = FlsV m → t 3 = IntV 0 → (∀ id, id < b → hh id = h id) → (m, 0) = fromR s → Am.Ends Tryd.prog ⟨Tryd.f14.ntmps, b, ι, h, w, x0⟩ Tryd.f14 0 (fun r h' => r = .tup [FlsV (fromR s).1, IntV (fromR s).2] ∧ h' = h) ⟨t, hh, n⟩ := by
    intro t hh n m ht ht2 ho hv
    exact Ends.pure hn H ho (r0 := .tup [FlsV m, IntV 0]) (by rw [show Tryd.f14.results.toList = [.tmp 2, .tmp 3] from rfl]; exact Ecf (jn2 @ht @ht2)) (frz_tup2 (frzV.p _) (.v _)) ⟨by rw [← hv], rfl⟩
  refine Rk ?_
  refine AWP.seq ?_
  by_cases c1 : (65536 : Int) < s.length
  · refine Rkf (jn2 @hlm @c1) ?_
    refine Bt ?_
    refine Rk ?_
    refine AWP.ret ?_
    refine Ev ?_
    exact fin _ _ _ 3 (by exact Er) (by exact Er) (fun _ _ => rfl) (by unfold fromR; rw [if_pos (by omega)])
  refine Rkf (jn2 @hlm @c1) ?_
  refine Bs ?_
  have hf0 : fromR s = match readT s with
    | none => ([], 2)
    | some l => if bytesR l = (s, 0) then (l, 0) else ([], 2) := by unfold fromR; rw [if_neg (by omega)]; cases readT s <;> rfl
  cases hT : readT s with
  | none =>
    rw [hT] at hf0
    refine Rg (fun E K hE hK => ?_)
    refine CallR.use (read_ok s (by omega) _ _) body_26 ?_
    intro r h' hR
    unfold readR at hR
    rw [hT] at hR
    obtain ⟨rfl, rfl⟩ := hR
    refine Ev ?_
    refine hK _ _ _ ?_; clear hE hK K E
    refine AWP.seq ?_
    refine Rk ?_
    refine Bt ?_
    refine Rk ?_
    refine AWP.ret ?_
    refine Ev ?_
    exact fin _ _ _ 2 (by exact Er) (by exact Er) (fun _ _ => rfl) hf0.symm
  | some l =>
  rw [hT] at hf0
  simp only at hf0
  obtain ⟨hbd, hln⟩ := readT_bd hT
  refine Rg (fun E K hE hK => ?_)
  refine CallR.use (read_ok s (by omega) _ _) body_26 ?_
  intro r h' hR
  unfold readR at hR
  rw [hT] at hR
  obtain ⟨ver, cap, T, g1, g2, g3, rfl, rfl⟩ := hR
  refine Ev ?_
  refine hK _ _ _ ?_; clear hE hK K E
  refine AWP.frz 4 (cap := cap) (len := l.length) (off := 0) (id := b) 6 (l.map encF) (by exact Er) (upd_same _ _ _) rfl (by rw [List.length_map]) (okEs_fl _).len (row_cells (okEs_fl _) ver _) ?_
  refine AWP.seq ?_
  refine Rk ?_
  refine Bs ?_
  refine AWP.seq ?_
  refine Rg (fun E K hE hK => ?_)
  refine Us (bytes_ok l (fun f hf => (hbd f hf).1) (by omega) _ _) body_10 ?_
  refine hK _ _ _ ?_; clear hE hK K E
  by_cases c2 : checkT l = 0
  case neg =>
    have hbr : bytesR l = ([], checkT l) := by unfold bytesR; rw [if_neg c2]
    rw [if_neg (by rw [hbr]; intro e; exact c2 (Prod.mk.inj e).2)] at hf0
    refine Rkf (jn2 @hbr @c2) ?_
    refine Bt ?_
    refine Rk ?_
    refine AWP.ret ?_
    refine Ev ?_
    exact fin _ _ _ 2 (by exact Er) (by exact Er) (fun id (hid : id < b) => by simp -implicitDefEqProofs only [go_sem, ↓reduceIte, Nat.reduceEqDiff, Nat.reduceAdd, Nat.reduceLT, Nat.reduceLeDiff, reduceCtorEq, Int.toNat_natCast, delH, show ¬ id = b by omega]) hf0.symm
  have hbr : bytesR l = (tableB l, 0) := by unfold bytesR; rw [if_pos c2]
  by_cases c3 : tableB l = s
  · rw [if_pos (by rw [hbr, c3])] at hf0
    have hd : decide (tableB l = s) = true := decide_eq_true c3
    refine Rgf @hbr (fun E K hE hK => ?_)
    refine Us (bytesEq_ok (tableB l) s _ _) body_27 ?_
    refine Evf @hd ?_
    refine hK _ _ _ ?_; clear hE hK K E
    refine Bs ?_
    refine Rk ?_
    refine AWP.ret ?_
    exact fin2 _ _ _ l (by exact Er) (by exact Er) (fun id (hid : id < b) => by simp -implicitDefEqProofs only [go_sem, ↓reduceIte, Nat.reduceEqDiff, Nat.reduceAdd, Nat.reduceLT, Nat.reduceLeDiff, reduceCtorEq, Int.toNat_natCast, delH, show ¬ id = b by omega]) hf0.symm
  · rw [if_neg (by rw [hbr]; intro e; exact c3 (Prod.mk.inj e).1)] at hf0
    have hd : decide (tableB l = s) = false := decide_eq_false c3
    refine Rgf @hbr (fun E K hE hK => ?_)
    refine Us (bytesEq_ok (tableB l) s _ _) body_27 ?_
    refine Evf @hd ?_
    refine hK _ _ _ ?_; clear hE hK K E
    refine Bt ?_
    refine Rk ?_
    refine AWP.ret ?_
    refine Ev ?_
    exact fin _ _ _ 2 (by exact Er) (by exact Er) (fun id (hid : id < b) => by simp -implicitDefEqProofs only [go_sem, ↓reduceIte, Nat.reduceEqDiff, Nat.reduceAdd, Nat.reduceLT, Nat.reduceLeDiff, reduceCtorEq, Int.toNat_natCast, delH, show ¬ id = b by omega]) hf0.symm
end Go.Proofs.YthnhpbihgalgeaaDoor

namespace Go.Proofs.YthnhpbihgalgeaaDoor
set_option linter.unusedSimpArgs false
set_option linter.unusedVariables false
set_option linter.unnecessarySimpa false
open Go Am
set_option maxRecDepth 100000

def lgI (l : List Fl) (h : Heap) (b i : Nat) (st : St) : Prop :=
  (∀ x, x < b → st.h x = h x) ∧ st.t 2 = IntV (2 + (filesB (l.take i)).length : Nat) ∧ st.t 12 = FlsV l ∧ st.t 13 = IntV l.length ∧ st.t 14 = IntV (i : Nat)

theorem long_ok (l : List Fl) (hs : ∀ f ∈ l, 0 ≤ f.sum ∧ f.sum < 4294967296) (hl : l.length ≤ 1000000) (h : Heap) (b : Nat) :
    ACalls Tryd.prog 17 [FlsV l] h b 0 (fun r h' => r = .tup [IntV (longR l).1, IntV (longR l).2] ∧ h' = h) := by
  refine ACalls.enter Tryd.func17 rfl (by simp [Tryd.ntmps17]) (fun ι w hn H => ?_)
  have hlow := H.lowCells
  have hlm : (l.map encF).length = l.length := List.length_map _
  refine Rk ?_
  refine AWP.seq ?_
  refine Rg (fun E K hE hK => ?_)
  refine Us (tCheck_ok l hl _ _) body_21 ?_
  refine hK _ _ _ ?_; clear hE hK K E
  by_cases c1 : checkT l = 0
  case neg =>
    refine Rkf @c1 ?_
    refine Bt ?_
    refine Rk ?_
    refine AWP.ret ?_
    refine Ev ?_
    exact Ends.pure hn H (fun _ _ => rfl) (r0 := .tup [IntV 0, IntV (checkT l)]) (by rw [show Tryd.f17.results.toList = [.tmp 2, .tmp 3] from rfl]; exact Er) (frz_tup2 (.v _) (.v _)) ⟨by unfold longR; rw [if_neg c1], rfl⟩
  obtain ⟨hbd, h256⟩ := check_bd c1 hs
  refine Rkf @c1 ?_
  refine Bs ?_
  refine Rk ?_
  refine AWP.seq ?_
  refine Rkf @hlm ?_
  refine AWP.block ?_
  refine AWP.loopM 0 (fun m st => ∃ i, i ≤ l.length ∧ m = l.length - i ∧ lgI l h b i st) l.length rfl ⟨0, Nat.zero_le _, rfl, fun _ _ => rfl, by exact Er, by exact Er, by exact Er, by exact Er⟩ ?_
  rintro m ⟨t, hh, n⟩ ⟨i, hi, rfl, ho, e2, e12, e13, e14⟩ hn1
  simp only at ho e2 e12 e13 e14 hn1
  subst hn1
  refine Rkf (jn2 @e13 @e14) ?_
  refine AWP.seq ?_
  by_cases hlt : (i : Int) < l.length
  · have hw1 : IntKind.i64.wrap ((i : Int) + 1) = ((i + 1 : Nat) : Int) := by rw [wrap_i64 (by omega) (by omega)]; rfl
    have hi2 : i < l.length := by omega
    have hge := encF_getD l i hi2
    obtain ⟨f, hf⟩ : ∃ f, l[i] = f := ⟨_, rfl⟩
    have hfm : f ∈ l := by rw [← hf]; exact List.getElem_mem hi2
    rw [hf] at hge
    have hsn := filesB_snoc l i hi2
    rw [hf] at hsn
    have hsl := filesB_len (l := l.take i) (fun x hx => hbd x (List.mem_of_mem_take hx))
    rw [List.length_take] at hsl
    have sz := mkS_size f.name
    have h4 := (mayF_bd (hbd f hfm).may).2.2.2.1
    have hfl := fileB_len f
    have w1 : IntKind.i64.wrap (1 + (f.name.length : Int)) = 1 + (f.name.length : Int) := wrap_i64 (by omega) (by omega)
    have w2 : IntKind.i64.wrap (1 + (f.name.length : Int) + 8) = 1 + (f.name.length : Int) + 8 := wrap_i64 (by omega) (by omega)
    have w3 : IntKind.i64.wrap (1 + (f.name.length : Int) + 8 + 4) = 1 + (f.name.length : Int) + 8 + 4 := wrap_i64 (by omega) (by omega)
    have w4 : IntKind.i64.wrap (1 + (f.name.length : Int) + 8 + 4 + 2) = 1 + (f.name.length : Int) + 8 + 4 + 2 := wrap_i64 (by omega) (by omega)
    have w5 : IntKind.i64.wrap (1 + (f.name.length : Int) + 8 + 4 + 2 + 6) = 1 + (f.name.length : Int) + 8 + 4 + 2 + 6 := wrap_i64 (by omega) (by omega)
    have w6 : IntKind.i64.wrap (((2 + (filesB (l.take i)).length : Nat) : Int) + (1 + (f.name.length : Int) + 8 + 4 + 2 + 6)) = ((2 + (filesB (l.take (i + 1))).length : Nat) : Int) := by
      rw [wrap_i64 (by omega) (by omega), hsn, List.length_append]; omega
    refine Btf @hlt ?_
    refine AWP.skip ?_
    refine Ev ?_
    refine AWP.seq ?_
    refine AWP.block ?_
    refine Rgf (jn5 @e12 @e14 @hlm @hlt @hge) (fun E K hE hK => ?_)
    refine ⟨by omega, ?_⟩
    refine hK _ _ _ ?_; clear hE hK K E
    refine Raf (jn2 @e2 (jn7 @sz @w1 @w2 @w3 @w4 @w5 @w6)) (fun E K hE hK => ?_); refine hK _ _ _ ?_; clear hE hK K E
    refine Ev ?_
    refine Raf (jn2 @e14 @hw1) (fun E K hE hK => ?_); refine hK _ _ _ ?_; clear hE hK K E
    refine ⟨l.length - (i + 1), by omega, i + 1, by omega, rfl, cutH_outer (Nat.le_refl _) (Ouf @ho) hlow, by exact Er, by exact Ecf @e12, by exact Ecf @e13, by exact Er⟩
  · refine Bff @hlt ?_
    refine AWP.exit ?_
    refine Ev ?_
    have hil : i = l.length := by omega
    subst hil
    rw [List.take_length] at e2
    refine Rkf @e2 ?_
    refine AWP.ret ?_
    exact Ends.pure hn H ho (r0 := .tup [IntV (2 + (filesB l).length : Nat), IntV 0]) (by rw [show Tryd.f17.results.toList = [.tmp 2, .tmp 3] from rfl]; exact Er) (frz_tup2 (.v _) (.v _)) ⟨by unfold longR tableB; rw [if_pos c1, List.length_append, leB_len], rfl⟩
end Go.Proofs.YthnhpbihgalgeaaDoor

namespace Go.Proofs.YthnhpbihgalgeaaDoor
set_option linter.unusedSimpArgs false
set_option linter.unusedVariables false
set_option linter.unnecessarySimpa false
open Go Am
set_option maxRecDepth 100000

theorem view_fls {h : Heap} {D : Nat → Bool} {id ver cap : Nat} {T : List Cell} (m : List Fl) (hD : D id = true) (hb : h id = some (rowB ver (m.map encF) T)) : ViewC h D (.win id ver 0 m.length cap) (.p (.sl 6 (m.map encF))) := by
  have hlm : (m.map encF).length = m.length := List.length_map _
  have vw := view_rowT (h := h) (D := D) (id := id) (ver := ver) (sz := 6) (m := m.length) (j := 0) (off := 0) (cap := cap) hD hb (okEs_fl m) (by rw [hlm]; omega) rfl
  rw [List.drop_zero, ← hlm, List.take_length, hlm] at vw
  exact vw
theorem check_lendW {l : List Fl} {id ver cap : Nat} {T : List Cell} {hh : Heap} (hl : l.length ≤ 1000000) (hb : hh id = some (rowB ver (l.map encF) T)) (b : Nat) :
    ACalls Tryd.prog 21 [.one (.win id ver 0 l.length cap)] hh b 0 (fun r h' => r = IntV (checkT l) ∧ h' = hh) :=
  (tCheck_ok l hl noH b).lend (.cons (.one (view_fls l rfl hb)) .nil) (.one _)

def wbW (l : List Fl) (id0 ver0 cap0 : Nat) (h : Heap) (b i : Nat) (st : St) : Prop :=
  ∃ ver cap, OctRow st.h b ver cap (leB 2 l.length ++ filesB (l.take i)) ∧ (∀ x, x < b → st.h x = h x) ∧ st.t 5 = .one (.win b ver 0 (leB 2 l.length ++ filesB (l.take i)).length cap) ∧ st.t 17 = .one (.win id0 ver0 0 l.length cap0) ∧ st.t 18 = IntV l.length ∧ st.t 19 = IntV (i : Nat)


theorem bytesW_ok (l : List Fl) (id0 ver0 cap0 : Nat) (T0 : List Cell) (hs : ∀ f ∈ l, 0 ≤ f.sum ∧ f.sum < 4294967296) (hl : l.length ≤ 1000000) (h : Heap) (b : Nat) (hid0 : id0 < b) (hb0 : h id0 = some (rowB ver0 (l.map encF) T0)) :
    ACalls Tryd.prog 10 [.one (.win id0 ver0 0 l.length cap0)] h b 0 (fun r h' => r = .tup [OctV (bytesR l).1, IntV (bytesR l).2] ∧ h' = h) := by
  refine ACalls.enter Tryd.func10 rfl (by simp [Tryd.ntmps10]) (fun ι w hn H => ?_)
  have hlow := H.lowCells
  have hlm : (l.map encF).length = l.length := List.length_map _
  have hlL : (List.map Cell.p (l.map encF).flatten ++ T0).length = l.length * 6 + T0.length := by rw [List.length_append, List.length_map, okEs_len (okEs_fl _), List.length_map]
  have hpt := fun (i : Nat) (f : Fl) (hi : l[i]? = some f) => row_part T0 (okEs_fl l) (i := i) (e := encF f) (by rw [List.getElem?_map, hi]; rfl)
  have hb1 : h id0 = some ⟨ver0, List.map Cell.p (l.map encF).flatten ++ T0⟩ := hb0
  have hck := check_lendW (cap := cap0) hl hb0
  refine Rk ?_
  refine AWP.seq ?_
  refine Rg (fun E K hE hK => ?_)
  refine Us (hck _) body_21 ?_
  refine hK _ _ _ ?_; clear hE hK K E
  by_cases c1 : checkT l = 0
  case neg =>
    refine Rkf @c1 ?_
    refine Bt ?_
    refine Rk ?_
    refine AWP.ret ?_
    refine Ev ?_
    exact Ends.pure hn H (fun _ _ => rfl) (r0 := .tup [.one (.p (.v (.slice none 0 0))), IntV (checkT l)]) (by rw [show Tryd.f10.results.toList = [.tmp 2, .tmp 3] from rfl]; exact Er) (frz_tup2 (.one (frz_nil 1)) (.v _)) ⟨by unfold bytesR; rw [if_neg c1]; rfl, rfl⟩
  obtain ⟨hbd, h256⟩ := check_bd c1 hs
  have wn : IntKind.u64.wrap (l.length : Int) = ((l.length : Nat) : Int) := by rw [wrap_u64]; omega
  refine Rkf @c1 ?_
  refine Bs ?_
  generalize List.map Cell.p (l.map encF).flatten ++ T0 = L0 at hlL hpt hb1
  have nb : ¬ id0 = b := by omega
  have nb' : ¬ b = id0 := by omega
  refine Rgf (jn2 @hb1 @wn) (fun E K hE hK => ?_)
  refine CallR.use (put_nil_ok l.length 2 (by rw [pow8]; omega) (by decide) _ _) body_22 ?_
  rintro _ _ ⟨ver, cap, T, g1, g2, g3, rfl, rfl⟩
  refine Ev ?_
  refine hK _ _ _ ?_; clear hE hK K E
  refine AWP.seq ?_
  refine Rkf (jn2 @hb1 @nb) ?_
  refine AWP.block ?_
  refine AWP.loopM 1 (fun m st => ∃ i, i ≤ l.length ∧ m = l.length - i ∧ wbW l id0 ver0 cap0 h b i st) l.length rfl ⟨0, Nat.zero_le _, rfl, ver, cap, by simp only [List.take_zero, filesB, List.append_nil]; exact OctRow.of (upd_same _ _ _) g2 g3, Ou, by simp only [List.take_zero, filesB, List.append_nil]; exact Er, by exact Er, by exact Er, by exact Er⟩ ?_
  rintro m ⟨t, hh, n⟩ ⟨i, hi, rfl, ver, cap, hr, ho, e5, e17, e18, e19⟩ hn1
  simp only at hr ho e5 e17 e18 e19 hn1
  subst hn1
  refine Rkf (jn2 @e18 @e19) ?_
  refine AWP.seq ?_
  by_cases hlt : (i : Int) < l.length
  · have hw1 : IntKind.i64.wrap ((i : Int) + 1) = ((i + 1 : Nat) : Int) := by rw [wrap_i64 (by omega) (by omega)]; rfl
    have hi2 : i < l.length := by omega
    have hge := hpt i l[i] (by simp [hi2])
    obtain ⟨f, hf⟩ : ∃ f, l[i] = f := ⟨_, rfl⟩
    have hfm : f ∈ l := by rw [← hf]; exact List.getElem_mem hi2
    rw [hf] at hge
    have hsn := filesB_snoc l i hi2
    rw [hf] at hsn
    have hsl : (leB 2 l.length ++ filesB (l.take i)).length ≤ 100000 := by
      have h1 := filesB_len (l := l.take i) (fun x hx => hbd x (List.mem_of_mem_take hx))
      rw [List.length_take] at h1
      simp only [List.length_append, leB_len]; omega
    have he : leB 2 l.length ++ filesB (l.take (i + 1)) = (leB 2 l.length ++ filesB (l.take i)) ++ fileB f := by rw [hsn, List.append_assoc]
    refine Btf @hlt ?_
    refine AWP.skip ?_
    refine Ev ?_
    refine AWP.seq ?_
    refine AWP.block ?_
    have hbi : hh id0 = some ⟨ver0, L0⟩ := (ho id0 hid0).trans hb1
    have hle : i * 6 + 6 ≤ L0.length := by omega
    refine Rgf (jn6 @e17 @e19 @hbi @hlt @hge @hle) (fun E K hE hK => ?_)
    repeat (refine ⟨by omega, ?_⟩)
    refine hK _ _ _ ?_; clear hE hK K E
    refine Raf @e5 (fun E K hE hK => ?_)
    refine CallR.use (file_ok (leB 2 l.length ++ filesB (l.take i)) f (hbd f hfm) (by omega) _ _ b ver cap (Nat.lt_succ_of_lt (Nat.lt_succ_self _)) (hr.ne (by omega))) body_23 ?_
    rintro _ _ ⟨ver2, cap2, T2, g1, g2, g3, rfl, rfl⟩
    rw [← he] at g1 g2 ⊢
    refine Ev ?_
    refine hK _ _ _ ?_; clear hE hK K E
    refine Ev ?_
    refine Raf (jn2 @e19 @hw1) (fun E K hE hK => ?_); refine hK _ _ _ ?_; clear hE hK K E
    refine ⟨(by decide : 1 ≤ 2), l.length - (i + 1), by omega, i + 1, by omega, rfl, ver2, cap2, OctRow.cut (OctRow.of (by exact Er) g2 g3) (Nat.lt_succ_self _), cutH_outer (Nat.le_succ _) (Ouf @ho) hlow, by refine Ev ?_; exact cutV_win (Nat.lt_succ_self _), by refine Evf @e17 ?_; exact cutV_win (Nat.lt_succ_of_lt hid0), by exact Ecf @e18, by exact Er⟩
  · refine Bff @hlt ?_
    refine AWP.exit ?_
    refine Ev ?_
    have hil : i = l.length := by omega
    subst hil
    rw [List.take_length] at hr e5
    have hbr : bytesR l = (tableB l, 0) := by unfold bytesR; rw [if_pos c1]
    obtain ⟨T2, hb, h3, h4⟩ := hr
    refine Rkf @e5 ?_
    refine AWP.frz 2 (cap := cap) (len := (tableB l).length) (off := 0) (id := b) 1 ((tableB l).map encO) (by exact Er) hb rfl (by rw [List.length_map]) (okEs_oct _).len (row_cells (okEs_oct _) ver _) ?_
    refine AWP.ret ?_
    refine Ev ?_
    exact Ends.pure hn H (fun id (hid : id < b) => by simp -implicitDefEqProofs only [go_sem, ↓reduceIte, Nat.reduceEqDiff, Nat.reduceAdd, Nat.reduceLT, Nat.reduceLeDiff, reduceCtorEq, Int.toNat_natCast, delH, show ¬ id = b by omega]; exact ho id hid) (r0 := .tup [OctV (tableB l), IntV 0]) (by rw [show Tryd.f10.results.toList = [.tmp 2, .tmp 3] from rfl]; exact Er) (frz_tup2 (frzV.p _) (.v _)) ⟨by rw [hbr], rfl⟩

/-- an own table, and why not -/
def ownF (P : List Fl × Int) (h : Heap) (b : Nat) (r : AV) (h' : Heap) : Prop :=
  ∃ ver cap T, cap * 6 = P.1.length * 6 + T.length ∧ lowCs 0 T = true ∧ r = .tup [.one (.win b ver 0 P.1.length cap), IntV P.2] ∧ h' = upd h b (rowB ver (P.1.map encF) T)

theorem fromW_ok (s : S) (hs : s.length ≤ maxLen) (h : Heap) (b : Nat) : ACalls Tryd.prog 14 [OctV s] h b 1 (ownF (fromR s) h b) := by
  refine ACalls.enter Tryd.func14 rfl (by simp [Tryd.ntmps14]) (fun ι w hn H => ?_)
  have hlm : (s.map encO).length = s.length := List.length_map _
  have fin : ∀ (t : Nat → AV) (hh : Heap) (n : Nat) (ver cap : Nat) (T : List Cell) (m : List Fl) (id : Nat) (e : Int), t 2 = .one (.win id ver 0 m.length cap) → t 3 = IntV e → hh id = some (rowB ver (m.map encF) T) → b ≤ id → (∀ id, id < b → hh id = h id) → (m, e) = fromR s → cap * 6 = m.length * 6 + T.length → lowCs 0 T = true → Am.Ends Tryd.prog ⟨Tryd.f14.ntmps, b, ι, h, w, x0⟩ Tryd.f14 1 (ownF (fromR s) h b) ⟨t, hh, n⟩ := by
    intro t hh n ver cap T m id e ht ht2 hb hid ho hv q2 q3
    refine Ends.row (id := id) (blk := rowB ver (m.map encF) T) hn H ho hid hb (lowCs_app (lowCs_p _ _) (lowCs_mono (Nat.zero_le _) q3)) (r0 := .tup [.one (.win id ver 0 m.length cap), IntV e]) (by rw [show Tryd.f14.results.toList = [.tmp 2, .tmp 3] from rfl]; exact Ecf (jn2 @ht @ht2)) (renV_tup2 (renV.win0 _ _ _ _) (renV.v _)) ?_
    rw [← hv]
    exact ⟨ver, cap, T, q2, q3, rfl, rfl⟩
  refine Rk ?_
  refine AWP.seq ?_
  by_cases c1 : (65536 : Int) < s.length
  · refine Rkf (jn2 @hlm @c1) ?_
    refine Bt ?_
    refine Rk ?_
    refine AWP.virt 2 (by exact Er) ?_
    refine AWP.ret ?_
    refine Ev ?_
    exact fin _ _ _ 0 0 [] [] b 3 (by exact Er) (by exact Er) (by exact Er) (by omega) Ou (by unfold fromR; rw [if_pos (by omega)]) rfl rfl
  refine Rkf (jn2 @hlm @c1) ?_
  refine Bs ?_
  have hf0 : fromR s = match readT s with
    | none => ([], 2)
    | some l => if bytesR l = (s, 0) then (l, 0) else ([], 2) := by unfold fromR; rw [if_neg (by omega)]; cases readT s <;> rfl
  cases hT : readT s with
  | none =>
    rw [hT] at hf0
    refine Rg (fun E K hE hK => ?_)
    refine CallR.use (read_ok s (by omega) _ _) body_26 ?_
    intro r h' hR
    unfold readR at hR
    rw [hT] at hR
    obtain ⟨rfl, rfl⟩ := hR
    refine Ev ?_
    refine hK _ _ _ ?_; clear hE hK K E
    refine AWP.seq ?_
    refine Rk ?_
    refine Bt ?_
    refine Rk ?_
    refine AWP.virt 2 (by exact Er) ?_
    refine AWP.ret ?_
    refine Ev ?_
    exact fin _ _ _ 0 0 [] [] (b + 1) 2 (by exact Er) (by exact Er) (by exact Er) (by omega) Ou hf0.symm rfl rfl
  | some l =>
  rw [hT] at hf0
  simp only at hf0
  obtain ⟨hbd, hln⟩ := readT_bd hT
  refine Rg (fun E K hE hK => ?_)
  refine CallR.use (read_ok s (by omega) _ _) body_26 ?_
  intro r h' hR
  unfold readR at hR
  rw [hT] at hR
  obtain ⟨ver, cap, T, g1, g2, g3, rfl, rfl⟩ := hR
  refine Ev ?_
  refine hK _ _ _ ?_; clear hE hK K E
  refine AWP.seq ?_
  refine Rk ?_
  refine Bs ?_
  refine AWP.seq ?_
  refine Rg (fun E K hE hK => ?_)
  refine Us (bytesW_ok l b ver cap T (fun f hf => (hbd f hf).1) (by omega) _ _ (Nat.lt_succ_self _) (upd_same _ _ _)) body_10 ?_
  refine hK _ _ _ ?_; clear hE hK K E
  by_cases c2 : checkT l = 0
  case neg =>
    have hbr : bytesR l = ([], checkT l) := by unfold bytesR; rw [if_neg c2]
    rw [if_neg (by rw [hbr]; intro e; exact c2 (Prod.mk.inj e).2)] at hf0
    refine Rkf (jn2 @hbr @c2) ?_
    refine Bt ?_
    refine Rk ?_
    refine AWP.virt 2 (by exact Er) ?_
    refine AWP.ret ?_
    refine Ev ?_
    exact fin _ _ _ 0 0 [] [] (b + 1) 2 (by exact Er) (by exact Er) (by exact Er) (by omega) Ou hf0.symm rfl rfl
  have hbr : bytesR l = (tableB l, 0) := by unfold bytesR; rw [if_pos c2]
  by_cases c3 : tableB l = s
  · rw [if_pos (by rw [hbr, c3])] at hf0
    have hd : decide (tableB l = s) = true := decide_eq_true c3
    refine Rgf @hbr (fun E K hE hK => ?_)
    refine Us (bytesEq_ok (tableB l) s _ _) body_27 ?_
    refine Evf @hd ?_
    refine hK _ _ _ ?_; clear hE hK K E
    refine Bs ?_
    refine Rk ?_
    refine AWP.ret ?_
    exact fin _ _ _ ver cap T l b 0 (by exact Er) (by exact Er) (upd_same _ _ _) (Nat.le_refl _) Ou hf0.symm g2 g3
  · rw [if_neg (by rw [hbr]; intro e; exact c3 (Prod.mk.inj e).1)] at hf0
    have hd : decide (tableB l = s) = false := decide_eq_false c3
    refine Rgf @hbr (fun E K hE hK => ?_)
    refine Us (bytesEq_ok (tableB l) s _ _) body_27 ?_
    refine Evf @hd ?_
    refine hK _ _ _ ?_; clear hE hK K E
    refine Bt ?_
    refine Rk ?_
    refine AWP.virt 2 (by exact Er) ?_
    refine AWP.ret ?_
    refine Ev ?_
    exact fin _ _ _ 0 0 [] [] (b + 1) 2 (by exact Er) (by exact Er) (by exact Er) (by omega) Ou hf0.symm rfl rfl
end Go.Proofs.YthnhpbihgalgeaaDoor
