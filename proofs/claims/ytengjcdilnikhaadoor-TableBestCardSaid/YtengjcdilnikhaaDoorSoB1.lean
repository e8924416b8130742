/-
  Files by their ranks: Best, and the reference's; Files by their ranks: the reference's Best; Walk of the law TableBest.
-/
import Derived.Test.YtengjcdilnikhaaDoorSoW1
import Derived.Test.YtengjcdilnikhaaDoorTbO1
import Derived.Test.YtengjcdilnikhaaDoorTbD1
import Derived.Test.YtengjcdilnikhaaDoorFlAp
import Derived.Test.YtengjcdilnikhaaDoorTbL2
import Derived.Test.YtengjcdilnikhaaDoorTbL3
namespace Go.Proofs.YtengjcdilnikhaaDoor
set_option linter.unusedSimpArgs false
set_option linter.unusedVariables false
set_option linter.unnecessarySimpa false
open Go Am So
set_option maxRecDepth 100000

/-! ### plain -/
def insS (k : Fl → Int) (x : Fl) : List Fl → List Fl
  | [] => [x]
  | y :: l => if k x < k y then x :: y :: l else y :: insS k x l
def srtS (k : Fl → Int) : List Fl → List Fl
  | [] => []
  | x :: l => srtA k (insS k x []) l
where srtA (k : Fl → Int) (out : List Fl) : List Fl → List Fl
  | [] => out
  | x :: l => srtA k (insS k x out) l

theorem insS_len (k : Fl → Int) (x : Fl) : ∀ l, (insS k x l).length = l.length + 1
  | [] => rfl
  | y :: l => by
    unfold insS
    split
    · rfl
    · rw [List.length_cons, insS_len k x l, List.length_cons]
theorem insS_ok {k : Fl → Int} {x : Fl} : ∀ {l : List Fl}, Srt k l → Srt k (insS k x l) ∧ FEq k (l ++ [x]) (insS k x l)
  | [], _ => ⟨List.pairwise_singleton _ _, FEq.refl _ _⟩
  | y :: l, h => by
    have h' := List.pairwise_cons.1 h
    unfold insS
    split
    · rename_i hlt
      have ha : ∀ z ∈ y :: l, k x < k z := fun z hz => by
        rcases List.mem_cons.1 hz with rfl | hz
        · exact hlt
        · have := h'.1 z hz; omega
      exact ⟨List.pairwise_cons.2 ⟨fun z hz => Int.le_of_lt (ha z hz), h⟩, FEq.swap (u := y :: l) (v := [x]) (fun z hz w hw => by rw [List.mem_singleton.1 hw]; have := ha z hz; omega)⟩
    · rename_i hlt
      obtain ⟨g1, g2⟩ := insS_ok (x := x) h'.2
      refine ⟨List.pairwise_cons.2 ⟨fun z hz => ?_, g1⟩, (FEq.refl k [y]).app g2⟩
      have := (g2.mem z).2 hz
      rcases List.mem_append.1 this with q | q
      · exact h'.1 z q
      · rw [List.mem_singleton.1 q]; omega
theorem srtA_ok {k : Fl → Int} : ∀ (l out : List Fl), Srt k out → Srt k (srtS.srtA k out l) ∧ FEq k (out ++ l) (srtS.srtA k out l) ∧ (srtS.srtA k out l).length = out.length + l.length
  | [], out, h => ⟨h, by rw [List.append_nil]; exact FEq.refl _ _, rfl⟩
  | x :: l, out, h => by
    obtain ⟨g1, g2⟩ := insS_ok (x := x) h
    obtain ⟨q1, q2, q3⟩ := srtA_ok l (insS k x out) g1
    refine ⟨q1, ?_, by rw [show srtS.srtA k out (x :: l) = srtS.srtA k (insS k x out) l from rfl, q3, insS_len, List.length_cons]; omega⟩
    have := (g2.app (FEq.refl k l)).trans q2
    rwa [List.append_assoc, List.singleton_append] at this
theorem srtS_ok (k : Fl → Int) (l : List Fl) : Srt k (srtS k l) ∧ FEq k l (srtS k l) ∧ (srtS k l).length = l.length := by
  cases l with
  | nil => exact ⟨List.Pairwise.nil, FEq.refl _ _, rfl⟩
  | cons x l =>
    obtain ⟨q1, q2, q3⟩ := srtA_ok (k := k) l (insS k x []) (List.pairwise_singleton (fun x y => k x ≤ k y) x)
    exact ⟨q1, q2, by rw [show srtS k (x :: l) = srtS.srtA k (insS k x []) l from rfl, q3, insS_len, List.length_cons]; simp; omega⟩
theorem srtS_unique {k : Fl → Int} {l q : List Fl} (h1 : Srt k q) (h2 : FEq k l q) : q = srtS k l :=
  unique h1 (srtS_ok k l).1 (h2.symm.trans (srtS_ok k l).2.1)

abbrev kB (f : Fl) : Int := - keyR f.rank
abbrev kD (f : Fl) : Int := - keyD f.rank
def bestR (k : Fl → Int) (l : List Fl) : List Fl × Int := if checkT l ≠ 0 then ([], 1) else (srtS k l, 0)
theorem checkT_one {l : List Fl} (h : checkT l ≠ 0) : checkT l = 1 := by
  unfold checkT at h ⊢
  split
  · rfl
  · rename_i h1; rw [if_neg h1] at h
    split
    · rename_i h2; rw [if_pos h2] at h; exact absurd rfl h
    · rfl

/-! ### Best -/
theorem BestO_ok (l : List Fl) (hl : l.length ≤ 1000000) (h : Heap) (b : Nat) : ACalls Tryd.prog 52 [FlsV l] h b 1 (ownT (bestR kB l) h b) := by
  refine ACalls.enter Tryd.func52 rfl (by simp [Tryd.ntmps52]) (fun ι w hn H => ?_)
  have hlm : (l.map encF).length = l.length := List.length_map _
  have fin : ∀ (t : Nat → AV) (hh : Heap) (n : Nat) (ver cap : Nat) (T : List Cell) (m : List Fl) (id : Nat) (e : Int), t 2 = .one (.win id ver 0 m.length cap) → t 3 = IntV e → hh id = some (rowB ver (m.map encF) T) → b ≤ id → (∀ id, id < b → hh id = h id) → (m, e) = bestR kB l → m.length ≤ cap → cap * 6 = m.length * 6 + T.length → lowCs 0 T = true → Am.Ends Tryd.prog ⟨Tryd.f52.ntmps, b, ι, h, w, x0⟩ Tryd.f52 1 (ownT (bestR kB l) h b) ⟨t, hh, n⟩ := by
    intro t hh n ver cap T m id e ht ht2 hb hid ho hv q1 q2 q3
    refine Ends.row (id := id) (blk := rowB ver (m.map encF) T) hn H ho hid hb (lowCs_app (lowCs_p _ _) (lowCs_mono (Nat.zero_le _) q3)) (r0 := .tup [.one (.win id ver 0 m.length cap), IntV e]) (by rw [show Tryd.f52.results.toList = [.tmp 2, .tmp 3] from rfl]; exact Ecf (jn2 @ht @ht2)) (renV_tup2 (renV.win0 _ _ _ _) (renV.v _)) ?_
    rw [← hv]
    exact ⟨ver, cap, T, q1, q2, q3, rfl, rfl⟩
  refine Rk ?_
  refine AWP.seq ?_
  by_cases hbad : checkT l = 0
  case neg =>
    have h1 := checkT_one hbad
    refine Rg (fun E K hE hK => ?_)
    refine Us (tCheck_ok l (by omega) _ _) body_39 ?_
    refine Evf @h1 ?_
    refine hK _ _ _ ?_; clear hE hK K E
    refine Rk ?_
    refine Bt ?_
    refine Rk ?_
    refine AWP.virt 2 (by exact Er) ?_
    refine AWP.ret ?_
    refine Ev ?_
    exact fin _ _ _ 0 0 [] [] b 1 (by exact Er) (by exact Er) (by exact Er) (Nat.le_refl _) Ou (by unfold bestR; rw [if_pos hbad]) (Nat.le_refl _) rfl rfl
  have hl256 := (checkT_zero.1 hbad).1
  refine Rg (fun E K hE hK => ?_)
  refine Us (tCheck_ok l (by omega) _ _) body_39 ?_
  refine Evf @hbad ?_
  refine hK _ _ _ ?_; clear hE hK K E
  refine Rk ?_
  refine Bs ?_
  refine Rg (fun E K hE hK => ?_)
  refine CallR.use (clone_fl_ok (l.map encF) (okEs_fl l) _ _ (by rw [hlm]; omega)) body_75 ?_
  rintro _ _ ⟨ver, cap, T, g1, g2, g3, rfl, rfl⟩
  rw [hlm] at g1 g2
  refine Evf @hlm ?_
  refine hK _ _ _ ?_; clear hE hK K E
  refine Rg (fun E K hE hK => ?_)
  refine CallR.use (sortStable_ok best1_cmp l _ _ b ver l.length cap T (Nat.lt_succ_self _) rfl (by omega) (upd_same _ _ _) (lowCs_mono (Nat.zero_le _) g3)) body_91 ?_
  rintro _ _ ⟨rfl, q, s1, s2, s3, rfl⟩
  rw [upd_upd]
  refine Ev ?_
  refine hK _ _ _ ?_; clear hE hK K E
  refine Rk ?_
  refine AWP.ret ?_
  have hq : q = srtS kB l := srtS_unique s1 s2
  exact fin _ _ _ ver cap T q b 0 (by rw [s3]; exact Er) (by exact Er) (by exact Er) (Nat.le_refl _) Ou (by unfold bestR; rw [if_neg (by simp [hbad]), hq]) (by rw [s3]; exact g1) (by rw [s3]; exact g2) g3
end Go.Proofs.YtengjcdilnikhaaDoor

namespace Go.Proofs.YtengjcdilnikhaaDoor
set_option linter.unusedSimpArgs false
set_option linter.unusedVariables false
set_option linter.unnecessarySimpa false
open Go Am So
set_option maxRecDepth 100000

theorem rankCmpD_ok (x y : Nat) (h : Heap) (b : Nat) : ACalls Tryd.prog 99 [F64V x, F64V y] h b 0 (fun r h' => r = IntV (cmpZ (keyD x) (keyD y)) ∧ h' = h) := by
  refine ACalls.enter Tryd.func99 rfl (by simp [Tryd.ntmps99]) (fun ι w hn H => ?_)
  have fin : ∀ (t : Nat → AV) (n : Nat) (v : Int), t 4 = IntV v → v = cmpZ (keyD x) (keyD y) → Am.Ends Tryd.prog ⟨Tryd.f99.ntmps, b, ι, h, w, x0⟩ Tryd.f99 0 (fun r h' => r = IntV (cmpZ (keyD x) (keyD y)) ∧ h' = h) ⟨t, h, n⟩ := by
    intro t n v ht hv
    exact Ends.pure hn H (fun _ _ => rfl) (r0 := IntV v) (by rw [show Tryd.f99.results.toList = [.tmp 4] from rfl]; exact Ecf @ht) (.v _) ⟨by rw [hv], rfl⟩
  refine Rk ?_
  refine AWP.seq ?_
  by_cases h1 : keyD x < keyD y
  · refine Rg (fun E K hE hK => ?_)
    refine Us (rKeyD_ok x _ _) body_114 ?_
    refine Us (rKeyD_ok y _ _) body_114 ?_
    refine Evf @h1 ?_
    refine hK _ _ _ ?_; clear hE hK K E
    refine Bt ?_
    refine Rk ?_
    refine AWP.ret ?_
    refine Ev ?_
    exact fin _ _ (-1) (by exact Er) (by unfold cmpZ; rw [if_pos h1])
  · refine Rg (fun E K hE hK => ?_)
    refine Us (rKeyD_ok x _ _) body_114 ?_
    refine Us (rKeyD_ok y _ _) body_114 ?_
    refine Evf @h1 ?_
    refine hK _ _ _ ?_; clear hE hK K E
    refine Bs ?_
    refine AWP.seq ?_
    by_cases h2 : keyD y < keyD x
    · refine Rg (fun E K hE hK => ?_)
      refine Us (rKeyD_ok x _ _) body_114 ?_
      refine Us (rKeyD_ok y _ _) body_114 ?_
      refine Evf @h2 ?_
      refine hK _ _ _ ?_; clear hE hK K E
      refine Bt ?_
      refine Rk ?_
      refine AWP.ret ?_
      refine Ev ?_
      exact fin _ _ 1 (by exact Er) (by unfold cmpZ; rw [if_neg h1, if_pos h2])
    · refine Rg (fun E K hE hK => ?_)
      refine Us (rKeyD_ok x _ _) body_114 ?_
      refine Us (rKeyD_ok y _ _) body_114 ?_
      refine Evf @h2 ?_
      refine hK _ _ _ ?_; clear hE hK K E
      refine Bs ?_
      refine Rk ?_
      refine AWP.ret ?_
      refine Ev ?_
      exact fin _ _ 0 (by exact Er) (by unfold cmpZ; rw [if_neg h1, if_neg h2])

theorem kD_lt {x y : Fl} : kD x < kD y ↔ keyD y.rank < keyD x.rank := by show - keyD x.rank < - keyD y.rank ↔ _; omega
theorem kB_lt {x y : Fl} : kB x < kB y ↔ keyR y.rank < keyR x.rank := by show - keyR x.rank < - keyR y.rank ↔ _; omega

def rbI (l : List Fl) (h : Heap) (b i : Nat) (st : St) : Prop :=
  ∃ out, Srt kD out ∧ FEq kD (l.take i) out ∧ out.length = i ∧ (∀ id, id < b → st.h id = h id) ∧ st.t 4 = FlsV out ∧ st.t 12 = FlsV l ∧ st.t 13 = IntV l.length ∧ st.t 14 = IntV (i : Nat)
def rbJ (l out : List Fl) (x : Fl) (h : Heap) (b i j : Nat) (st : St) : Prop :=
  (∀ y ∈ out.drop j, kD x < kD y) ∧ st.h b = some ⟨0, (encF x).map .p⟩ ∧ (∀ id, id < b → st.h id = h id) ∧ st.t 4 = FlsV out ∧ st.t 6 = .one (.ptr b 0 0) ∧ st.t 7 = IntV (j : Nat) ∧ st.t 12 = FlsV l ∧ st.t 13 = IntV l.length ∧ st.t 14 = IntV (i : Nat)

theorem rBest_ok (l : List Fl) (hl : l.length ≤ 100000) (hs : ∀ f ∈ l, f.name.length ≤ 1000) (h : Heap) (b : Nat) : ACalls Tryd.prog 56 [FlsV l] h b 0 (fun r h' => r = .tup [FlsV (bestR kD l).1, IntV (bestR kD l).2] ∧ h' = h) := by
  refine ACalls.enter Tryd.func56 rfl (by simp [Tryd.ntmps56]) (fun ι w hn H => ?_)
  have hlow := H.lowCells
  have hlm : (l.map encF).length = l.length := List.length_map _
  have fin : ∀ (t : Nat → AV) (hh : Heap) (n : Nat) (e : Int), t 2 = .one (.p (.v (.slice none 0 0))) → t 3 = IntV e → (∀ id, id < b → hh id = h id) → ([], e) = bestR kD l → Am.Ends Tryd.prog ⟨Tryd.f56.ntmps, b, ι, h, w, x0⟩ Tryd.f56 0 (fun r h' => r = .tup [FlsV (bestR kD l).1, IntV (bestR kD l).2] ∧ h' = h) ⟨t, hh, n⟩ := by
    intro t hh n e ht ht2 ho hv
    exact Ends.pure hn H ho (r0 := .tup [.one (.p (.v (.slice none 0 0))), IntV e]) (by rw [show Tryd.f56.results.toList = [.tmp 2, .tmp 3] from rfl]; exact Ecf (jn2 @ht @ht2)) (frz_tup2 (.one (frz_nil 6)) (.v _)) ⟨by rw [← hv]; rfl, rfl⟩
  have fin2 : ∀ (t : Nat → AV) (hh : Heap) (n : Nat) (m : List Fl), t 2 = FlsV m → t 3 = IntV 0 → (∀ id, id < b → hh id = h id) → (m, 0) = bestR kD l → Am.Ends Tryd.prog ⟨Tryd.f56.ntmps, b, ι, h, w, x0⟩ Tryd.f56 0 (fun r h' => r = .tup [FlsV (bestR kD l).1, IntV (bestR kD l).2] ∧ h' = h) ⟨t, hh, n⟩ := by
    intro t hh n m ht ht2 ho hv
    exact Ends.pure hn H ho (r0 := .tup [FlsV m, IntV 0]) (by rw [show Tryd.f56.results.toList = [.tmp 2, .tmp 3] from rfl]; exact Ecf (jn2 @ht @ht2)) (frz_tup2 (frzV.p _) (.v _)) ⟨by rw [← hv], rfl⟩
  refine Rk ?_
  refine AWP.seq ?_
  by_cases hbad : checkT l = 0
  case neg =>
    have h1 := checkT_one hbad
    refine Rg (fun E K hE hK => ?_)
    refine Us (rCheckT_ok l (by omega) hs _ _) body_51 ?_
    refine Evf @h1 ?_
    refine hK _ _ _ ?_; clear hE hK K E
    refine Bt ?_
    refine Rk ?_
    refine AWP.ret ?_
    refine Ev ?_
    exact fin _ _ _ 1 (by exact Er) (by exact Er) Ou (by unfold bestR; rw [if_pos hbad])
  refine Rg (fun E K hE hK => ?_)
  refine Us (rCheckT_ok l (by omega) hs _ _) body_51 ?_
  refine Evf @hbad ?_
  refine hK _ _ _ ?_; clear hE hK K E
  refine Bs ?_
  refine Rk ?_
  refine AWP.frzNil 4 6 (by exact Er) ?_
  refine AWP.seq ?_
  refine Rkf @hlm ?_
  refine AWP.block ?_
  refine AWP.loopM 0 (fun m st => ∃ i, i ≤ l.length ∧ m = l.length - i ∧ rbI l h b i st) l.length rfl ⟨0, Nat.zero_le _, rfl, [], List.Pairwise.nil, by rw [List.take_zero]; exact FEq.refl _ _, rfl, fun _ _ => rfl, by exact Er, by exact Er, by exact Er, by exact Er⟩ ?_
  rintro m ⟨t, hh, n⟩ ⟨i, hi, rfl, out, so, fo, lo, ho, e4, e12, e13, e14⟩ hn1
  simp only at ho e4 e12 e13 e14 hn1
  subst hn1
  have hom : (out.map encF).length = out.length := List.length_map _
  refine Rkf (jn2 @e13 @e14) ?_
  refine AWP.seq ?_
  by_cases hlt : (i : Int) < l.length
  · have hw1 : IntKind.i64.wrap ((i : Int) + 1) = ((i + 1 : Nat) : Int) := by rw [wrap_i64 (by omega) (by omega)]; rfl
    have hi2 : i < l.length := by omega
    have hge := encF_getD l i hi2
    obtain ⟨x, hx⟩ : ∃ x, l[i] = x := ⟨_, rfl⟩
    have htk : l.take (i + 1) = l.take i ++ [x] := by rw [List.take_succ_eq_append_getElem hi2, hx]
    rw [hx] at hge
    refine Btf @hlt ?_
    refine AWP.skip ?_
    refine Ev ?_
    refine AWP.seq ?_
    refine AWP.block ?_
    refine Rgf (jn5 @e12 @e14 @hlm @hlt @hge) (fun E K hE hK => ?_)
    refine ⟨by omega, ?_⟩
    refine hK _ _ _ ?_; clear hE hK K E
    refine Rkf (jn2 @e4 @hom) ?_
    refine AWP.mid (fun st => st.n = 1 ∧ ∃ j, j ≤ out.length ∧ (∀ y ∈ out.take j, kD y ≤ kD x) ∧ rbJ l out x h b i j st) ?_ ?_
    · refine AWP.block ?_
      refine AWP.loopM 1 (fun m st => ∃ j, m = j ∧ j ≤ out.length ∧ rbJ l out x h b i j st) out.length rfl ⟨out.length, rfl, Nat.le_refl _, fun y hy => by simp at hy, by exact Er, (Ouf @ho), by exact Erf @e4, by exact Er, by exact Er, by exact Erf @e12, by exact Erf @e13, by exact Erf @e14⟩ ?_
      clear ho e4 e12 e13 e14
      rintro m ⟨t, hh, n⟩ ⟨j, rfl, hj, hgt, hb, ho, e4, e6, e7, e12, e13, e14⟩ hn1
      simp only at hb ho e4 e6 e7 e12 e13 e14 hn1
      subst hn1
      refine AWP.seq ?_
      by_cases h0 : m = 0
      · have h0' : ¬ (0 : Int) < (m : Nat) := by omega
        refine AWP.seqRegDG [] [] [] mixed (drawF_ok (by kernel_rfl)) (by kernel_rfl) (fun K hK => ?_); simp -implicitDefEqProofs only [go_sem, ↓reduceIte, Nat.reduceEqDiff, Nat.reduceAdd, Nat.reduceLT, Nat.reduceLeDiff, reduceCtorEq, Int.toNat_natCast, e7, h0']
        repeat (first | (refine Gdf 22 @h0' ?_) | (refine ⟨by omega, ?_⟩))
        refine hK _ _ _ ?_; clear hK K
        refine Bf ?_
        refine AWP.exit ?_
        refine Ev ?_
        exact ⟨m, hj, fun y hy => by rw [h0] at hy; simp at hy, hgt, hb, ho, by exact Ecf @e4, by exact Ecf @e6, by exact Ecf @e7, by exact Ecf @e12, by exact Ecf @e13, by exact Ecf @e14⟩
      · have h0' : (0 : Int) < (m : Nat) := by omega
        have hwm : IntKind.i64.wrap ((m : Int) - 1) = ((m - 1 : Nat) : Int) := by rw [wrap_i64 (by omega) (by omega)]; omega
        have hm2 : m - 1 < out.length := by omega
        have hlt2 : ((m - 1 : Nat) : Int) < out.length := by omega
        have hge2 := encF_getD out (m - 1) hm2
        obtain ⟨y, hy⟩ : ∃ y, out[m - 1] = y := ⟨_, rfl⟩
        rw [hy] at hge2
        have hdr : out.drop (m - 1) = y :: out.drop m := by rw [List.drop_eq_getElem_cons hm2, hy, show m - 1 + 1 = m by omega]
        refine AWP.seqRegDG [] [] [] mixed (drawF_ok (by kernel_rfl)) (by kernel_rfl) (fun K hK => ?_); simp -implicitDefEqProofs only [go_sem, ↓reduceIte, Nat.reduceEqDiff, Nat.reduceAdd, Nat.reduceLT, Nat.reduceLeDiff, reduceCtorEq, Int.toNat_natCast, e7, h0', e4, e6, hwm, hom, hlt2, hge2, hb, encF]
        repeat (first | (refine evD_guardT 22 rfl ?_; simp -implicitDefEqProofs only [go_sem, ↓reduceIte, Nat.reduceEqDiff, Nat.reduceAdd, Nat.reduceLT, Nat.reduceLeDiff, reduceCtorEq, Int.toNat_natCast, e7, h0', e4, e6, hwm, hom, hlt2, hge2, hb, encF]) | (refine ⟨by omega, ?_⟩))
        refine Ud (rankCmpD_ok y.rank x.rank _ _) body_99 ?_
        by_cases hneg : kD x < kD y
        · have hz1 : cmpZ (keyD y.rank) (keyD x.rank) < 0 := (cmpZ_neg _ _).2 (kD_lt.1 hneg)
          repeat (first | (refine Gdf 22 @hz1 ?_) | (refine ⟨by omega, ?_⟩))
          refine hK _ _ _ ?_; clear hK K
          refine Bt ?_
          refine AWP.skip ?_
          refine Ev ?_
          refine AWP.block ?_
          refine Raf (jn2 @e7 @hwm) (fun E K hE hK => ?_); refine hK _ _ _ ?_; clear hE hK K E
          exact ⟨(by decide : 1 ≤ 1), m - 1, by omega, m - 1, rfl, by omega, fun z hz => by
            rw [hdr] at hz
            rcases List.mem_cons.1 hz with rfl | hz
            · exact hneg
            · exact hgt z hz, cutH_same (Nat.lt_succ_self _) hb (lowCs_p _ _), cutH_outer (Nat.le_succ _) ho hlow, by exact Ecf @e4, by refine Evf @e6 ?_; exact cutV_ptr (Nat.lt_succ_self _), by exact Er, by exact Ecf @e12, by exact Ecf @e13, by exact Ecf @e14⟩
        · have hz1 : ¬ cmpZ (keyD y.rank) (keyD x.rank) < 0 := fun q => hneg (kD_lt.2 ((cmpZ_neg _ _).1 q))
          repeat (first | (refine Gdf 22 @hz1 ?_) | (refine ⟨by omega, ?_⟩))
          refine hK _ _ _ ?_; clear hK K
          refine Bf ?_
          refine AWP.exit ?_
          refine Ev ?_
          exact ⟨m, hj, fun z hz => by
            obtain ⟨c, hc, rfl⟩ := List.mem_iff_getElem.1 hz
            rw [List.length_take] at hc
            rw [List.getElem_take]
            have := so.get (i := c) (j := m - 1) (by omega) hm2
            rw [hy] at this
            omega, hgt, hb, ho, by exact Ecf @e4, by exact Ecf @e6, by exact Ecf @e7, by exact Ecf @e12, by exact Ecf @e13, by exact Ecf @e14⟩
    clear ho e4 e12 e13 e14
    rintro ⟨t, hh, n⟩ ⟨hn1, j, hj, hle, hgt, hb, ho, e4, e6, e7, e12, e13, e14⟩
    simp only at hb ho e4 e6 e7 e12 e13 e14 hn1
    subst hn1
    obtain ⟨s1, s2⟩ := let_in2 (y := x) so j hle hgt
    have ht1 : ((out.map encF).take j).length = j := by rw [List.length_take, hom]; omega
    have hm1 : (out.map encF).take j = (out.take j).map encF := List.map_take.symm
    have hm2 : (out.map encF).drop j = (out.drop j).map encF := List.map_drop.symm
    refine Rgf (jn3 @e4 @e7 @hom) (fun E K hE hK => ?_)
    refine ⟨⟨by omega, by omega⟩, BiR.of ?_⟩
    refine appN_fl (fs := (out.take j).map encF) (okEs_fl _) (by rw [hm1]; exact Er) rfl (by rw [List.length_map, List.length_take]; omega) (fun cap1 T1 q1 q2 => ?_)
    refine Ev ?_
    refine hK _ _ _ ?_; clear hE hK K E
    have r1 := RowAt.new (h := hh) (id := b + 1) (ver := 1) q1 q2
    refine AWP.seqReg (by kernel_rfl) (fun E K hE hK => ?_); simp -implicitDefEqProofs only [go_sem, ↓reduceIte, Nat.reduceEqDiff, Nat.reduceAdd, Nat.reduceLT, Nat.reduceLeDiff, reduceCtorEq, Int.toNat_natCast, e6, hb, encF, rowB]
    refine BiR.of ?_
    refine app_fl (m := 1) (es := (out.take j).map encF) (fs := [encF x]) ((r1.ne (by omega))) (okEs_fl _) (okEs_fl [x]) (by simp [srcA, upd_same, encF]) (List.length_map _).symm rfl (by simp only [List.length_take, List.length_map]; omega) (fun cap2 T2 q1 q2 => ?_)
    refine Ev ?_
    refine hK _ _ _ ?_; clear hE hK K E
    have hes : (out.take j).map encF ++ [encF x] = (out.take j ++ [x]).map encF := by simp
    rw [hes] at q1 ⊢
    have r2 := RowAt.new (h := upd (upd hh (b + 1) (rowB 1 ((out.take j).map encF) T1)) (b + 2) ⟨0, (encF x).map .p⟩) (id := b + 1) (ver := 2) q1 q2
    have hm3 : ((out.map encF).drop j).take (out.length - j) = (out.drop j).map encF := by rw [hm2, List.take_of_length_le (by rw [List.length_map, List.length_drop]; omega)]
    have hlt1 : (out.take j).length + 1 = (out.take j ++ [x]).length := by simp
    refine Raf (jn4 @e4 @e7 @hom @hm3) (fun E K hE hK => ?_)
    refine ⟨⟨by omega, by omega⟩, BiR.of ?_⟩
    refine app_fl (es := (out.take j ++ [x]).map encF) (fs := (out.drop j).map encF) r2 (okEs_fl _) (okEs_fl _) (by exact Erf @hm3) (by rw [List.length_map, hlt1]) rfl (by simp only [List.length_take, List.length_map, List.length_drop]; omega) (fun cap3 T3 q1 q2 => ?_)
    rw [← List.map_append] at q1 ⊢
    refine Ev ?_
    refine hK _ _ _ ?_; clear hE hK K E
    refine Ev ?_
    have hol : (out.take j ++ [x] ++ out.drop j).length = i + 1 := by simp only [List.length_append, List.length_take, List.length_drop, List.length_singleton]; omega
    refine AWP.frzRow 4 (id := b + 1) (ver := 3) (cap := cap3) (sz := 6) (es := (out.take j ++ [x] ++ out.drop j).map encF) (by exact Er) ⟨T3, by exact Er, q1, q2⟩ (okEs_fl _) (by rw [List.length_map, hol]; simp only [List.length_append, List.length_take, List.length_drop, List.length_singleton, List.length_map]; omega) ?_
    refine Raf (jn2 @e14 @hw1) (fun E K hE hK => ?_); refine hK _ _ _ ?_; clear hE hK K E
    rw [show out.take j ++ x :: out.drop j = out.take j ++ [x] ++ out.drop j by simp] at s1 s2
    exact ⟨l.length - (i + 1), by omega, i + 1, by omega, rfl, _, s1, by rw [htk]; exact (fo.app (FEq.refl kD [x])).trans s2, hol, cutH_outer (Nat.le_refl _) (fun id (hid : id < b) => by simp -implicitDefEqProofs only [go_sem, ↓reduceIte, Nat.reduceEqDiff, Nat.reduceAdd, Nat.reduceLT, Nat.reduceLeDiff, reduceCtorEq, Int.toNat_natCast, delH, show ¬ id = b by omega, show ¬ id = b + 1 by omega, show ¬ id = b + 2 by omega]; exact ho id hid) hlow, by exact Er, by exact Ecf @e12, by exact Ecf @e13, by exact Er⟩
  · refine Bff @hlt ?_
    refine AWP.exit ?_
    refine Ev ?_
    have hil : i = l.length := by omega
    subst hil
    rw [List.take_length] at fo
    have hq := srtS_unique so fo
    refine Rkf @e4 ?_
    refine AWP.ret ?_
    exact fin2 _ _ _ out (by exact Erf @e4) (by exact Er) ho (by unfold bestR; rw [if_neg (by simp [hbad]), hq])
end Go.Proofs.YtengjcdilnikhaaDoor

namespace Go.Proofs.YtengjcdilnikhaaDoor
set_option linter.unusedSimpArgs false
set_option linter.unusedVariables false
set_option linter.unnecessarySimpa false
open Go Am So
set_option maxRecDepth 100000

theorem Best_ok (l : List Fl) (hl : l.length ≤ 1000000) (h : Heap) (b : Nat) : ACalls Tryd.prog 52 [FlsV l] h b 0 (fun r h' => r = .tup [FlsV (bestR kB l).1, IntV (bestR kB l).2] ∧ h' = h) := ownT_frz (BestO_ok l hl h b)

/-! ### plain -/
theorem kL_at {q : Option S} : ∀ {l : List Fl} {i : Nat} (hi : i < l.length), tabF q l = true → kL l[i].name l = i ∧ hasL l[i].name l = true := by
  intro l i hi ht
  have h0 : cK l[i].name l[i].name = 0 := cK_eq.2 rfl
  have h1 : kL l[i].name l = i := by
    rcases Nat.lt_trichotomy (kL l[i].name l) i with h | h | h
    · have h2 := kL_hi (p := l[i].name) (q := q) (l := l) (j := kL l[i].name l) (by omega) ht (Nat.le_refl _)
      exact absurd (tabF_lt ht (kL l[i].name l) i h hi) h2
    · exact h
    · have := kL_lo (p := l[i].name) (l := l) hi h; omega
  refine ⟨h1, hasL_k.2 ⟨by omega, ?_⟩⟩
  simp only [h1]; exact h0
theorem getR_mem {l : List Fl} (h : checkT l = 0) {f : Fl} (hf : f ∈ l) : getR l f.name = (f, 0) := by
  obtain ⟨i, hi, rfl⟩ := List.mem_iff_getElem.1 hf
  have ht := (checkT_zero.1 h).2
  obtain ⟨h1, h2⟩ := kL_at hi ht
  have hc := mayF_chk (tabF_may ht _ hf)
  unfold getR
  rw [if_neg (by simp [h, hc]), if_pos h2, h1]
  simp [List.getD, hi]
/-- by their ranks, and by their names -/
theorem best_names {l q : List Fl} (h : checkT l = 0) (s2 : FEq kB l q) (i : Nat) (hi : i + 1 < q.length) (he : keyR (q[i]'(by omega)).rank = keyR q[i + 1].rank) :
    cK (q[i]'(by omega)).name q[i + 1].name < 0 := by
  have hp : l.Pairwise (fun x y => cK x.name y.name < 0) := List.pairwise_iff_getElem.2 (fun i j hi hj hij => tabF_lt (checkT_zero.1 h).2 i j hij hj)
  have hc := s2 (kB q[i])
  have hf : (q.filter (fun x => decide (kB x = kB q[i]))).Pairwise (fun x y => cK x.name y.name < 0) := by rw [← hc]; exact hp.sublist List.filter_sublist
  have hsub : [q[i], q[i + 1]].Sublist q := by
    have : q = q.take i ++ (q[i] :: q[i + 1] :: q.drop (i + 2)) := by
      rw [← List.drop_eq_getElem_cons (by omega), ← List.drop_eq_getElem_cons (by omega), List.take_append_drop]
    conv => rhs; rw [this]
    exact (((List.nil_sublist _).cons_cons _).cons_cons _).trans (List.sublist_append_right _ _)
  have := hsub.filter (fun x => decide (kB x = kB q[i]))
  have he2 : kB q[i + 1] = kB q[i] := by show - keyR _ = - keyR _; rw [he]
  rw [List.filter_cons_of_pos (by simp), List.filter_cons_of_pos (by simp [he2]), List.filter_nil] at this
  have := hf.sublist this
  simp at this
  exact this

def tbI (l q : List Fl) (h : Heap) (b i : Nat) (st : St) : Prop :=
  (∀ id, id < b → st.h id = h id) ∧ st.t 0 = FlsV l ∧ st.t 3 = BoolV true ∧ st.t 4 = FlsV q ∧ st.t 36 = FlsV q ∧ st.t 37 = IntV q.length ∧ st.t 38 = IntV (i : Nat)

theorem TableBest_ok (l : List Fl) (hl : l.length ≤ maxLen) (h : Heap) (b : Nat) :
    ACalls Tryd.prog 13 [FlsV l] h b 0 (fun r h' => r = BoolV true ∧ h' = h) := by
  refine ACalls.enter Tryd.func13 rfl (by simp [Tryd.ntmps13]) (fun ι w0 hn H => ?_)
  have hmx : maxLen ≤ 9223372036854775807 := by decide
  have hlow := H.lowCells
  have hlm : (l.map encF).length = l.length := List.length_map _
  have fin : ∀ (t : Nat → AV) (hh : Heap) (n : Nat), t 2 = BoolV true → (∀ id, id < b → hh id = h id) → Am.Ends Tryd.prog ⟨Tryd.f13.ntmps, b, ι, h, w0, x0⟩ Tryd.f13 0 (fun r h' => r = BoolV true ∧ h' = h) ⟨t, hh, n⟩ := by
    intro t hh n ht ho
    exact Ends.pure hn H ho (r0 := BoolV true) (by rw [show Tryd.f13.results.toList = [.tmp 2] from rfl]; exact Ecf @ht) (.v _) ⟨rfl, rfl⟩
  refine Rk ?_
  refine Rg (fun E K hE hK => ?_)
  refine Us (live_ok _ _) body_34 ?_
  refine hK _ _ _ ?_; clear hE hK K E
  refine AWP.seq ?_
  cases c1 : fewT l
  · refine Rg (fun E K hE hK => ?_)
    refine Us (fewT_ok l (by omega) _ _) body_41 ?_
    refine Evf @c1 ?_
    refine hK _ _ _ ?_; clear hE hK K E
    refine Bt ?_
    refine Rk ?_
    refine AWP.ret ?_
    refine Ev ?_
    exact fin _ _ _ (by exact Er) (fun _ _ => rfl)
  refine Rg (fun E K hE hK => ?_)
  refine Us (fewT_ok l (by omega) _ _) body_41 ?_
  refine Evf @c1 ?_
  refine hK _ _ _ ?_; clear hE hK K E
  refine Bs ?_
  have hl3 : l.length ≤ 300 := by
    unfold fewT at c1
    simp only [Bool.and_eq_true, Bool.or_eq_true, decide_eq_true_eq] at c1
    omega
  by_cases hck : checkT l = 0
  case neg =>
    have hb : bestR kB l = ([], 1) := by unfold bestR; rw [if_pos hck]
    refine Rg (fun E K hE hK => ?_)
    refine Us (Best_ok l (by omega) _ _) body_52 ?_
    refine Evf @hb ?_
    refine hK _ _ _ ?_; clear hE hK K E
    refine AWP.seq ?_
    refine Rk ?_
    refine Bt ?_
    refine Rk ?_
    refine AWP.ret ?_
    refine Ev ?_
    exact fin _ _ _ (by exact Er) (fun _ _ => rfl)
  obtain ⟨s1, s2, s3⟩ := srtS_ok kB l
  have hb : bestR kB l = (srtS kB l, 0) := by unfold bestR; rw [if_neg (by simp [hck])]
  obtain ⟨q, hq⟩ : ∃ q, srtS kB l = q := ⟨_, rfl⟩
  rw [hq] at hb
  rw [hq] at s1 s2 s3
  have hnm := best_names hck s2
  have hqm : (q.map encF).length = q.length := List.length_map _
  have hql : (q.length : Int) = l.length := by omega
  have hmay := tabF_may (checkT_zero.1 hck).2
  refine Rg (fun E K hE hK => ?_)
  refine Us (Best_ok l (by omega) _ _) body_52 ?_
  refine Evf @hb ?_
  refine hK _ _ _ ?_; clear hE hK K E
  refine AWP.seq ?_
  refine Rk ?_
  refine Bs ?_
  refine AWP.seq ?_
  refine Rkf (jn3 @hqm @hlm @hql) ?_
  refine Bs ?_
  refine AWP.seq ?_
  refine Rkf @hqm ?_
  refine AWP.block ?_
  refine AWP.loopM 0 (fun m st => ∃ i, i ≤ q.length ∧ m = q.length - i ∧ tbI l q h b i st) q.length rfl ⟨0, Nat.zero_le _, rfl, fun _ _ => rfl, by exact Er, by exact Er, by exact Er, by exact Er, by exact Er, by exact Er⟩ ?_
  rintro m ⟨t, hh, n⟩ ⟨i, hi, rfl, ho, e0, e3, e4, e36, e37, e38⟩ hn1
  simp only at ho e0 e3 e4 e36 e37 e38 hn1
  subst hn1
  refine Rkf (jn2 @e37 @e38) ?_
  refine AWP.seq ?_
  by_cases hlt : (i : Int) < q.length
  · have hw1 : IntKind.i64.wrap ((i : Int) + 1) = ((i + 1 : Nat) : Int) := by rw [wrap_i64 (by omega) (by omega)]; rfl
    have hi2 : i < q.length := by omega
    have hge := encF_getD q i hi2
    have hfl : q[i] ∈ l := (s2.mem _).2 (List.getElem_mem hi2)
    obtain ⟨f, hf⟩ : ∃ f, q[i] = f := ⟨_, rfl⟩
    rw [hf] at hge hfl
    have hgt := getR_mem hck hfl
    refine Btf @hlt ?_
    refine AWP.skip ?_
    refine Ev ?_
    refine AWP.seq ?_
    refine AWP.block ?_
    refine Rgf (jn5 @e36 @e38 @hqm @hlt @hge) (fun E K hE hK => ?_)
    refine ⟨by omega, ?_⟩
    refine hK _ _ _ ?_; clear hE hK K E
    refine AWP.mid (fun st => st.n = 1 ∧ st.h b = some ⟨0, (encF f).map .p⟩ ∧ st.t 7 = .one (.ptr b 0 0) ∧ tbI l q h b i st) ?_ ?_
    · by_cases h0 : i = 0
      · have h0' : ¬ (0 : Int) < (i : Nat) := by omega
        refine Rkf @h0' ?_
        refine Bf ?_
        refine AWP.skip ?_
        exact ⟨rfl, by exact Er, by exact Er, (Ouf @ho), by exact Ecf @e0, by exact Ecf @e3, by exact Ecf @e4, by exact Ecf @e36, by exact Ecf @e37, by exact Ecf @e38⟩
      · have h0' : (0 : Int) < (i : Nat) := by omega
        have hwm : IntKind.i64.wrap ((i : Int) - 1) = ((i - 1 : Nat) : Int) := by rw [wrap_i64 (by omega) (by omega)]; omega
        have hm2 : i - 1 < q.length := by omega
        have hlt2 : ((i - 1 : Nat) : Int) < q.length := by omega
        have hge2 := encF_getD q (i - 1) hm2
        have hle := s1.get (i := i - 1) (j := i) (by omega) hi2
        have hnn := hnm (i - 1) (by omega)
        simp only [show i - 1 + 1 = i by omega] at hnn
        have hyl : q[i - 1] ∈ l := (s2.mem _).2 (List.getElem_mem hm2)
        obtain ⟨y, hy⟩ : ∃ y, q[i - 1] = y := ⟨_, rfl⟩
        rw [hy] at hge2 hyl hle hnn
        rw [hf] at hle hnn
        have hc0 : ¬ cmpZ (keyR y.rank) (keyR f.rank) < 0 := fun z => by
          have := (cmpZ_neg _ _).1 z
          have := kB_lt (x := f) (y := y)
          have h2 : ¬ kB f < kB y := by omega
          exact h2 (this.2 ‹_›)
        have hcm : cmpN y.name f.name = (cK y.name f.name, 0) := cmpN_ok (chkN_zero.1 (mayF_chk (hmay y hyl))) (chkN_zero.1 (mayF_chk (hmay f hfl)))
        have hcz : cmpZ (keyR y.rank) (keyR f.rank) = 0 → ¬ 0 ≤ cK y.name f.name := fun z => by
          have : keyR y.rank = keyR f.rank := by
            unfold cmpZ at z
            split at z
            · cases z
            · split at z
              · cases z
              · omega
          have := hnn this
          omega
        obtain ⟨c, hc⟩ : ∃ c, cmpZ (keyR y.rank) (keyR f.rank) = c := ⟨_, rfl⟩
        rw [hc] at hc0 hcz
        refine Rkf @h0' ?_
        refine Bt ?_
        refine AWP.seqRegD [] [] [] mixed (by kernel_rfl) (by kernel_rfl) (fun K hK => .inl ?_) (by kernel_rfl); simp -implicitDefEqProofs only [go_sem, ↓reduceIte, Nat.reduceEqDiff, Nat.reduceAdd, Nat.reduceLT, Nat.reduceLeDiff, reduceCtorEq, Int.toNat_natCast, e4, e38, hwm, hqm, hlt2, hge2, encF]
        refine ⟨by omega, ?_⟩
        refine Ud (rankCmp_ok y.rank f.rank _ _) body_53 ?_
        refine Evf @hc ?_
        refine hK _ _ _ ?_; clear hK K
        refine AWP.seqRegD [] [] [] mixed (by kernel_rfl) (by kernel_rfl) (fun K hK => .inl ?_) (by kernel_rfl); simp -implicitDefEqProofs only [go_sem, ↓reduceIte, Nat.reduceEqDiff, Nat.reduceAdd, Nat.reduceLT, Nat.reduceLeDiff, reduceCtorEq, Int.toNat_natCast, e4, e38, hwm, hqm, hlt2, hge2, encF]
        refine ⟨by omega, ?_⟩
        refine Ud (Cmp_ok (mkS y.name) (mkS f.name) _ _) body_54 ?_
        refine Evf (jn2 @mkS_list @hcm) ?_
        refine hK _ _ _ ?_; clear hK K
        refine Am.AWP.genT (fun st => st.n = 1 ∧ st.t 8 = IntV c ∧ st.t 9 = IntV (cK y.name f.name) ∧ st.t 10 = IntV 0 ∧ st.h b = some ⟨0, (encF f).map .p⟩ ∧ st.t 7 = .one (.ptr b 0 0) ∧ tbI l q h b i st) ⟨rfl, by exact Er, by exact Er, by exact Er, by exact Er, by exact Er, (Ouf @ho), by exact Ecf @e0, by exact Ecf @e3, by exact Ecf @e4, by exact Ecf @e36, by exact Ecf @e37, by exact Ecf @e38⟩ ?_
        clear ho e0 e3 e4 e36 e37 e38
        rintro ⟨t, hh, n⟩ ⟨hn1, e8, e9, e10, hb7, e7, ho, e0, e3, e4, e36, e37, e38⟩
        simp only at hn1 e8 e9 e10 hb7 e7 ho e0 e3 e4 e36 e37 e38
        subst hn1
        by_cases hcc : c = 0
        · have hnn := hcz hcc
          have hcc' : (c = 0) = True := eq_true hcc
          refine Rkf (jn6 @e8 @e9 @e10 @hc0 @hcc' @hnn) ?_
          refine Bf ?_
          refine AWP.skip ?_
          exact ⟨rfl, hb7, by exact Ecf @e7, ho, by exact Ecf @e0, by exact Ecf @e3, by exact Ecf @e4, by exact Ecf @e36, by exact Ecf @e37, by exact Ecf @e38⟩
        · refine Rkf (jn5 @e8 @e9 @e10 @hc0 @hcc) ?_
          refine Bf ?_
          refine AWP.skip ?_
          exact ⟨rfl, hb7, by exact Ecf @e7, ho, by exact Ecf @e0, by exact Ecf @e3, by exact Ecf @e4, by exact Ecf @e36, by exact Ecf @e37, by exact Ecf @e38⟩
    clear ho e0 e3 e4 e36 e37 e38
    rintro ⟨t, hh, n⟩ ⟨hn1, hb7, e7, ho, e0, e3, e4, e36, e37, e38⟩
    simp only at hn1 hb7 e7 ho e0 e3 e4 e36 e37 e38
    subst hn1
    refine AWP.seqReg (by kernel_rfl) (fun E K hE hK => ?_); simp -implicitDefEqProofs only [go_sem, ↓reduceIte, Nat.reduceEqDiff, Nat.reduceAdd, Nat.reduceLT, Nat.reduceLeDiff, reduceCtorEq, Int.toNat_natCast, e0, e7, hb7, encF]
    refine Us (Get_ok l f.name (by omega) _ _) body_40 ?_
    refine Evf @hgt ?_
    refine hK _ _ _ ?_; clear hE hK K E
    refine AWP.seqReg (by kernel_rfl) (fun E K hE hK => ?_); simp -implicitDefEqProofs only [go_sem, ↓reduceIte, Nat.reduceEqDiff, Nat.reduceAdd, Nat.reduceLT, Nat.reduceLeDiff, reduceCtorEq, Int.toNat_natCast, e7, hb7, encF]
    refine Us (rOne_ok f _ _) body_45 ?_
    refine hK _ _ _ ?_; clear hE hK K E
    refine Bf ?_
    refine AWP.skip ?_
    refine Ev ?_
    refine Raf (jn2 @e38 @hw1) (fun E K hE hK => ?_); refine hK _ _ _ ?_; clear hE hK K E
    exact ⟨q.length - (i + 1), by omega, i + 1, by omega, rfl, cutH_outer (Nat.le_refl _) (Ouf @ho) hlow, by exact Ecf @e0, by exact Ecf @e3, by exact Ecf @e4, by exact Ecf @e36, by exact Ecf @e37, by exact Er⟩
  · refine Bff @hlt ?_
    refine AWP.exit ?_
    refine Ev ?_
    refine Rkf @e3 ?_
    refine AWP.ret ?_
    exact fin _ _ _ (by exact Er) ho
end Go.Proofs.YtengjcdilnikhaaDoor
