/-
 Part 5 of the proof of stageTells_card: steps of the machine, walks and plain laws; each holds under the conditions that it states.
-/
import Derived.Test.YtihgnpboabpchaaGreatDoorTells4
import Derived.Sort.LotC
import Derived.Test.YtihgnpboabpchaaGreatDoorTells3
import Derived.Sort.LotD1
import Derived.Sort.LotD5
import Derived.Laws.Bits64
import Derived.Laws.Bits64b
import Derived.Sort.Walk13a
namespace Go.Proofs.YtihgnpboabpchaaGreatDoor.PdSt
set_option linter.unusedSimpArgs false
set_option linter.unusedVariables false
set_option linter.unnecessarySimpa false
open Go Am
set_option maxRecDepth 100000
def sifC (lt : El → El → Bool) (hi first root : Nat) (d : Array El) : Nat := if 2 * root + 1 + 1 < hi && lt d[first + (2 * root + 1)]! d[first + (2 * root + 1 + 1)]! then 2 * root + 2 else 2 * root + 1
theorem sift_eq (lt : El → El → Bool) (hi first root : Nat) (d : Array El) : Sort.siftDown lt hi first root d = if 2 * root + 1 ≥ hi then d else if lt d[first + root]! d[first + sifC lt hi first root d]! = true then Sort.siftDown lt hi first (sifC lt hi first root d) (Sort.swp d (first + root) (first + sifC lt hi first root d)) else d := by
 rw [Sort.siftDown]
 unfold sifC
 by_cases h1 : 2 * root + 1 ≥ hi
 ·rw [dif_pos h1, if_pos h1]
 ·rw [dif_neg h1, if_neg h1]
  rw [show first + (2 * root + 1) + 1 = first + (2 * root + 1 + 1) from rfl]
  by_cases h2 : (2 * root + 1 + 1 < hi && lt d[first + (2 * root + 1)]! d[first + (2 * root + 1 + 1)]!) = true
  ·rw [if_pos h2, if_pos h2]
   have h3 : 2 * root + 2 < hi := by simp at h2; omega
   by_cases h4 : lt d[first + root]! d[first + (2 * root + 2)]! = true
   ·rw [if_neg (by simp [h4]), dif_pos h3, if_pos h4]
   ·rw [if_pos (by simpa using h4), if_neg h4]
  ·rw [if_neg h2, if_neg h2]
   by_cases h4 : lt d[first + root]! d[first + (2 * root + 1)]! = true
   ·rw [if_neg (by simp [h4]), if_pos h4]
   ·rw [if_pos (by simpa using h4), if_neg h4]
theorem siftDown_ok {g : FuncId} {z : El → El → Int} (cm : CmpQ g z) {h : Heap} {b id ver cap : Nat} {d0 : Array El} {T : List Cell} (k : PdAt h id ver d0 T) (hid : id < b) (lo hi first : Nat) (hf : first + hi ≤ d0.size) (hlo : lo ≤ 1000000000) :
  ACalls Tryz.prog 197 [winQ id ver cap d0.size, IntV lo, IntV hi, IntV first, cloV g] h b 0
   (fun r h' => r = .tup [] ∧ h' = upd h id (rowQ ver (Sort.siftDown (ltZ z) hi first lo d0) T)) := by
 refine ACalls.enter Tryz.func197 rfl (by simp [Tryz.ntmps197]) (fun ι w hn H => ?_)
 have hlow := H.lowCells
 have hz := k.size
 obtain ⟨N, hN⟩ : ∃ N, d0.size = N := ⟨_, rfl⟩
 have hrow := k.row
 have hT := k.low
 rw [hN] at hz hf ⊢
 refine Rk ?_
 refine AWP.block ?_
 refine AWP.loopM 0 (fun m st => ∃ root d, m = 2000000001 - root ∧ root ≤ 2000000000 ∧ Sort.siftDown (ltZ z) hi first root d = Sort.siftDown (ltZ z) hi first lo d0 ∧ RwAt h b id ver cap N T d st ∧ st.t 2 = IntV hi ∧ st.t 3 = IntV first ∧ st.t 4 = cloV g ∧ st.t 10 = IntV root) (2000000001 - lo) rfl ⟨lo, d0, rfl, by omega, rfl, ⟨hN, hrow, fun _ _ _ => rfl, by exact Er⟩, by exact Er, by exact Er, by exact Er, by exact Er⟩ ?_
 rintro m ⟨t, hh, n⟩ ⟨root, d, rfl, hroot, hd, ⟨hs, hb, ho, e0⟩, e2, e3, e4, e10⟩ hn1
 simp only at hb ho e0 e2 e3 e4 e10 hn1
 subst hn1
 rw [sift_eq] at hd
 have fin : ∀ (t : Nat → AV), Sort.siftDown (ltZ z) hi first lo d0 = d → Am.Ends Tryz.prog ⟨Tryz.f197.ntmps, b, ι, h, w, x0⟩ Tryz.f197 0 (fun r h' => r = .tup [] ∧ h' = upd h id (rowQ ver (Sort.siftDown (ltZ z) hi first lo d0) T)) ⟨t, hh, 0⟩ := by
  intro t e
  exact RwAt.ends (C := ⟨_, b, ι, h, w, x0⟩) hid hT hn H hb ho rfl (frz_tup0 _ _) ⟨rfl, by rw [e]⟩
 have m1 : IntKind.i64.wrap (2 * (root : Int)) = ((2 * root : Nat) : Int) := by rw [wrap_i64 (by omega) (by omega)]; omega
 have m2 := w_add1 (a := 2 * root) (by omega)
 refine AWP.block ?_
 refine Rkf (jn3 @e10 @m1 @m2) ?_
 refine AWP.seq ?_
 by_cases hge : 2 * root + 1 ≥ hi
 ·have hge' : ((2 * root + 1 : Nat) : Int) ≥ (hi : Int) := by omega
  rw [if_pos hge] at hd
  refine Rkf (jn2 @e2 @hge') ?_
  refine Bt ?_
  refine AWP.exit ?_
  refine Ev ?_
  exact fin _ hd.symm
 have hge' : ¬ ((2 * root + 1 : Nat) : Int) ≥ (hi : Int) := by omega
 rw [if_neg hge] at hd
 refine Rkf (jn2 @e2 @hge') ?_
 refine Bs ?_
 have m3 := w_add1 (a := 2 * root + 1) (by omega)
 have m4 := w_add (a := first) (c := 2 * root + 1) (by omega)
 have m5 := w_add1 (a := first + (2 * root + 1)) (by omega)
 rw [show first + (2 * root + 1) + 1 = first + (2 * root + 1 + 1) from rfl] at m5
 have hszd : d.size ≤ 1000000000 := by omega
 rw [← hs] at e0 hf
 obtain ⟨c, hc⟩ : ∃ c, sifC (ltZ z) hi first root d = c := ⟨_, rfl⟩
 rw [hc] at hd
 have hch : c < hi := by
  rw [← hc]; unfold sifC
  split
  ·rename_i q; simp at q; omega
  ·omega
 have hcr : root < c := by
  rw [← hc]; unfold sifC
  split <;> omega
 refine AWP.mid (fun st => st.n = 0 ∧ st.h = hh ∧ st.t 0 = winQ id ver cap d.size ∧ st.t 2 = IntV hi ∧ st.t 3 = IntV first ∧ st.t 4 = cloV g ∧ st.t 10 = IntV root ∧ st.t 11 = IntV c) ?_ ?_
 ·unfold sifC at hc
  by_cases h1 : 2 * root + 1 + 1 < hi
  ·have h1' : ((2 * root + 1 + 1 : Nat) : Int) < (hi : Int) := by omega
   have la : (first + (2 * root + 1)) < d.size := by omega
   have lb : (first + (2 * root + 1 + 1)) < d.size := by omega
   have la' : (((first + (2 * root + 1)) : Nat) : Int) < d.size := by omega
   have lb' : (((first + (2 * root + 1 + 1)) : Nat) : Int) < d.size := by omega
   have hpa := celQ_get d T (first + (2 * root + 1)) la
   have hpb := celQ_get d T (first + (2 * root + 1 + 1)) lb
   have hb' : hh id = some ⟨ver, celQ d T⟩ := hb
   have hlL := celQ_len d T
   obtain ⟨vx, hvx⟩ : ∃ v, d[(first + (2 * root + 1))]! = v := ⟨_, rfl⟩
   obtain ⟨vy, hvy⟩ : ∃ v, d[(first + (2 * root + 1 + 1))]! = v := ⟨_, rfl⟩
   rw [hvx] at hpa
   rw [hvy] at hpb
   generalize celQ d T = L1 at hpa hpb hb' hlL
   refine AWP.seqRegDG [] [] [] mixed (drawF_ok (by kernel_rfl)) (by kernel_rfl) (fun K hK => ?_); simp -implicitDefEqProofs only [go_sem, ↓reduceIte, Nat.reduceEqDiff, Nat.reduceAdd, Nat.reduceLT, Nat.reduceLeDiff, reduceCtorEq, Int.toNat_natCast, e0, e2, e3, e4, m3, m4, m5, h1', hb', hpa, hpb, la', lb']
   repeat (first | (refine Gdf 23 (jn7 @e0 @e2 @e3 @e4 @m3 @m4 (jn7 @m5 @h1' @hb' @hpa @hpb @la' @lb')) ?_) | (refine ⟨by omega, ?_⟩))
   refine Ud (cm.calls vx vy _ _) cm.body ?_
   by_cases hlt : z vx vy < 0
   ·repeat (first | (refine Gdf 23 @hlt ?_) | (refine ⟨by omega, ?_⟩))
    rw [if_pos (by rw [hvx, hvy]; simp [h1, hlt])] at hc
    subst hc
    refine hK _ _ _ ?_; clear hK K
    refine Bt ?_
    refine Raf @m3 (fun E K hE hK => ?_); refine hK _ _ _ ?_; clear hE hK K E
    exact ⟨rfl, rfl, by exact Ecf @e0, by exact Ecf @e2, by exact Ecf @e3, by exact Ecf @e4, by exact Ecf @e10, by exact Er⟩
   ·repeat (first | (refine Gdf 23 @hlt ?_) | (refine ⟨by omega, ?_⟩))
    rw [if_neg (by rw [hvx, hvy]; simp [hlt])] at hc
    subst hc
    refine hK _ _ _ ?_; clear hK K
    refine Bf ?_
    refine AWP.skip ?_
    exact ⟨rfl, rfl, by exact Ecf @e0, by exact Ecf @e2, by exact Ecf @e3, by exact Ecf @e4, by exact Ecf @e10, by exact Er⟩
  ·have h1' : ¬ ((2 * root + 1 + 1 : Nat) : Int) < (hi : Int) := by omega
   rw [if_neg (by simp [h1])] at hc
   subst hc
   refine AWP.seqRegDG [] [] [] mixed (drawF_ok (by kernel_rfl)) (by kernel_rfl) (fun K hK => ?_); simp -implicitDefEqProofs only [go_sem, ↓reduceIte, Nat.reduceEqDiff, Nat.reduceAdd, Nat.reduceLT, Nat.reduceLeDiff, reduceCtorEq, Int.toNat_natCast, e0, e2, e3, e4, m3, m4, m5, h1']
   repeat (first | (refine Gdf 23 @h1' ?_) | (refine ⟨by omega, ?_⟩))
   refine hK _ _ _ ?_; clear hK K
   refine Bf ?_
   refine AWP.skip ?_
   exact ⟨rfl, rfl, by exact Ecf @e0, by exact Ecf @e2, by exact Ecf @e3, by exact Ecf @e4, by exact Ecf @e10, by exact Er⟩
 rintro ⟨t, hh, n⟩ ⟨rfl, rfl, e0, e2, e3, e4, e10, e11⟩
 simp only at e0 e2 e3 e4 e10 e11
 clear hc m3 m4 m5 m1 m2
 have m6 := w_add (a := first) (c := root) (by omega)
 have m7 := w_add (a := first) (c := c) (by omega)
 refine AWP.seq ?_
 obtain ⟨X, hX⟩ : ∃ X, first + root = X := ⟨_, rfl⟩
 obtain ⟨Y, hY⟩ : ∃ Y, first + c = Y := ⟨_, rfl⟩
 rw [hX] at m6 hd
 rw [hY] at m7 hd
 have la : X < d.size := by omega
 have lb : Y < d.size := by omega
 have la' : ((X : Nat) : Int) < d.size := by omega
 have lb' : ((Y : Nat) : Int) < d.size := by omega
 have hpa := celQ_get d T X la
 have hpb := celQ_get d T Y lb
 have hb' : hh id = some ⟨ver, celQ d T⟩ := hb
 have hlL := celQ_len d T
 obtain ⟨vx, hvx⟩ : ∃ v, d[X]! = v := ⟨_, rfl⟩
 obtain ⟨vy, hvy⟩ : ∃ v, d[Y]! = v := ⟨_, rfl⟩
 rw [hvx] at hpa
 rw [hvy] at hpb
 generalize celQ d T = L1 at hpa hpb hb' hlL
 refine AWP.seqRegD [] [] [] mixed (by kernel_rfl) (by kernel_rfl) (fun K hK => .inl ?_) (by kernel_rfl); simp -implicitDefEqProofs only [go_sem, ↓reduceIte, Nat.reduceEqDiff, Nat.reduceAdd, Nat.reduceLT, Nat.reduceLeDiff, reduceCtorEq, Int.toNat_natCast, e0, e3, e4, e10, e11, m6, m7, hb', hpa, hpb, la', lb']
 repeat (refine ⟨by omega, ?_⟩)
 refine Ud (cm.calls vx vy _ _) cm.body ?_
 by_cases hlt : z vx vy < 0
 ·rw [if_pos (by rw [hvx, hvy]; simp [hlt])] at hd
  refine hK _ _ _ ?_; clear hK K
  refine Bsf @hlt ?_
  clear hpa hpb hlL hb'
  have la : X < d.size := by omega
  have lb : Y < d.size := by omega
  have la' : ((X : Nat) : Int) < d.size := by omega
  have lb' : ((Y : Nat) : Int) < d.size := by omega
  have hpa := celQ_get d T X la
  have hpb := celQ_get d T Y lb
  have hs1 := celQ_set d T X la d[Y]!
  have hs2 := celQ_set (d.setIfInBounds X d[Y]!) T Y (by rw [Array.size_setIfInBounds]; exact lb) d[X]!
  rw [show (d.setIfInBounds X d[Y]!).setIfInBounds Y d[X]! = Sort.swp d X Y from rfl] at hs2
  have hb' : hh id = some ⟨ver, celQ d T⟩ := hb
  have hlL := celQ_len d T
  have hlL2 := celQ_len (d.setIfInBounds X d[Y]!) T
  rw [Array.size_setIfInBounds] at hlL2
  obtain ⟨vx, hvx⟩ : ∃ v, d[X]! = v := ⟨_, rfl⟩
  obtain ⟨vy, hvy⟩ : ∃ v, d[Y]! = v := ⟨_, rfl⟩
  rw [hvx] at hpa hs2
  rw [hvy] at hpb hs1 hs2 hlL2
  generalize celQ (d.setIfInBounds X vy) T = L2 at hs1 hs2 hlL2
  generalize celQ d T = L1 at hpa hpb hs1 hb' hlL
  refine AWP.seq ?_
  refine AWP.rgD [72, 78] [] [id] mixed (by kernel_rfl) (by kernel_rfl) (fun K hK => ?_) (by kernel_rfl); simp -implicitDefEqProofs only [go_sem, ↓reduceIte, Nat.reduceEqDiff, Nat.reduceAdd, Nat.reduceLT, Nat.reduceLeDiff, reduceCtorEq, Int.toNat_natCast, e0, e3, e10, e11, m6, m7, hb', hpa, hpb, la', lb', hs1, hs2]
  repeat (first | (refine ⟨⟨by omega, by omega⟩, ?_⟩) | (refine ⟨by omega, ?_⟩) | (refine ⟨sub_ers _ _, ?_⟩) | (refine ⟨sub_at _ hb', ?_⟩))
  refine hK _ _ _ ?_; clear hK K
  refine Ev ?_
  refine Raf @e11 (fun E K hE hK => ?_); refine hK _ _ _ ?_; clear hE hK K E
  refine ⟨2000000001 - c, by omega, c, _, rfl, by omega, hd, ?_, by exact Erf @e2, by exact Erf @e3, by exact Erf @e4, by exact Er⟩
  exact RwAt.cut hid hT hlow ⟨_, b, ι, h, w, x0⟩ rfl (by rw [swp_size, hs]) (by exact Er) (fun x hx hne => by refine Evf @hne ?_; exact ho x hx hne) (by exact Ecf (jn2 @e0 @hs))
 ·rw [if_neg (by rw [hvx, hvy]; simp [hlt])] at hd
  refine hK _ _ _ ?_; clear hK K
  refine Btf @hlt ?_
  refine AWP.ret ?_
  refine Ev ?_
  exact fin _ hd.symm
theorem sift_size (lt : El → El → Bool) (hi first : Nat) : ∀ (n root : Nat) (d : Array El), 2000000001 - root ≤ n → root ≤ 2000000000 → first + hi ≤ d.size → d.size ≤ 1000000000 → (Sort.siftDown lt hi first root d).size = d.size := by
 intro n
 induction n with
 | zero => intro root d h1 h2; omega
 | succ n ih =>
   intro root d h1 h2 h3 h4
   rw [sift_eq]
   split
   ·rfl
   ·split
    ·rename_i hge _
     have hc : sifC lt hi first root d = 2 * root + 1 ∨ sifC lt hi first root d = 2 * root + 2 ∧ 2 * root + 1 + 1 < hi := by
      unfold sifC
      split
      ·rename_i q; simp at q; exact .inr ⟨rfl, q.1⟩
      ·exact .inl rfl
     rw [ih _ _ (by omega) (by omega) (by rw [swp_size]; exact h3) (by rw [swp_size]; exact h4), swp_size]
    ·rfl
theorem heapSort_ok {g : FuncId} {z : El → El → Int} (cm : CmpQ g z) {h : Heap} {b id ver cap : Nat} {d0 : Array El} {T : List Cell} (k : PdAt h id ver d0 T) (hid : id < b) (a e : Nat) (hae : a ≤ e) (he : e ≤ d0.size) :
  ACalls Tryz.prog 160 [winQ id ver cap d0.size, IntV a, IntV e, cloV g] h b 0
   (fun r h' => r = .tup [] ∧ h' = upd h id (rowQ ver (Sort.heapSort (ltZ z) d0 a e) T)) := by
 refine ACalls.enter Tryz.func160 rfl (by simp [Tryz.ntmps160]) (fun ι w hn H => ?_)
 have hlow := H.lowCells
 have hz := k.size
 obtain ⟨N, hN⟩ : ∃ N, d0.size = N := ⟨_, rfl⟩
 have hrow := k.row
 have hT := k.low
 rw [hN] at hz he ⊢
 obtain ⟨l, hl⟩ : ∃ l, e - a = l := ⟨_, rfl⟩
 have w1 : IntKind.i64.wrap ((e : Int) - (a : Int)) = (l : Int) := by rw [w_sub hae (by omega)]; omega
 unfold Sort.heapSort
 rw [hl]
 have h20 : ¬ (2 : Int) = 0 := by decide
 have w2 : IntKind.i64.wrap (Int.tdiv (IntKind.i64.wrap ((l : Int) - 1)) 2) = (((l - 1) / 2 : Nat) : Int) := by
  have e1 : IntKind.i64.wrap ((l : Int) - 1) = (l : Int) - 1 := wrap_i64 (by omega) (by omega)
  rw [e1]
  rcases Nat.eq_zero_or_pos l with q | q
  ·subst q; decide
  ·rw [show (l : Int) - 1 = ((l - 1 : Nat) : Int) by omega, w_quo2 (by omega)]
 obtain ⟨p, hp⟩ : ∃ p, (l - 1) / 2 = p := ⟨_, rfl⟩
 rw [hp] at w2 ⊢
 have kk : ∀ (hh : Heap) (d : Array El), RwAt h b id ver cap N T d ⟨fun _ => winQ id ver cap N, hh, 0⟩ → PdAt hh id ver d T := fun hh d r => ⟨r.row, hT, by rw [r.size]; exact hz⟩
 refine Rk ?_
 refine Rk ?_
 refine Rkf @w1 ?_
 obtain ⟨df, hdf⟩ : ∃ df, Sort.heapBuild (ltZ z) l a (p + 1) d0 = df := ⟨_, rfl⟩
 rw [hdf]
 refine AWP.mid (fun st => st.n = 0 ∧ RwAt h b id ver cap N T df st ∧ st.t 3 = cloV g ∧ st.t 8 = IntV a ∧ st.t 9 = IntV (0 : Nat) ∧ st.t 10 = IntV l) ?_ ?_
 ·refine Rkf (jn2 @w2 @h20) ?_
  refine AWP.block ?_
  refine AWP.loopM 0 (fun m st => ∃ d, m ≤ p + 1 ∧ Sort.heapBuild (ltZ z) l a m d = df ∧ RwAt h b id ver cap N T d st ∧ st.t 3 = cloV g ∧ st.t 8 = IntV a ∧ st.t 9 = IntV (0 : Nat) ∧ st.t 10 = IntV l ∧ st.t 11 = .one (.p (.v (.int .i64 ((m : Int) - 1))))) (p + 1) rfl ⟨d0, Nat.le_refl _, hdf, ⟨hN, hrow, fun _ _ _ => rfl, by exact Er⟩, by exact Er, by exact Er, by exact Er, by exact Er, by exact Ecf (show ((p + 1 : Nat) : Int) - 1 = (p : Int) by omega)⟩ ?_
  rintro m ⟨t, hh, n⟩ ⟨d, hm, hd, ⟨hs, hb, ho, e0⟩, e3, e8, e9, e10, e11⟩ hn1
  simp only at hb ho e0 e3 e8 e9 e10 e11 hn1
  subst hn1
  refine AWP.seq ?_
  cases m with
  | zero =>
    have hge : ¬ (((0 : Nat) : Int) - 1) ≥ 0 := by decide
    refine Rkf (jn2 @e11 @hge) ?_
    refine Bf ?_
    refine AWP.exit ?_
    subst hd
    exact ⟨rfl, ⟨hs, hb, ho, by exact Ecf @e0⟩, by exact Ecf @e3, by exact Ecf @e8, by exact Ecf @e9, by exact Ecf @e10⟩
  | succ m =>
    have hge : (((m + 1 : Nat) : Int) - 1) ≥ 0 := by omega
    have hm1 : (((m + 1 : Nat) : Int) - 1) = (m : Int) := by omega
    rw [hm1] at e11 hge
    have k1 := siftDown_ok cm (b := b + 0) (cap := cap) (kk hh d ⟨hs, hb, ho, rfl⟩) hid m l a (by omega) (by omega)
    have hsz := sift_size (ltZ z) l a (2000000001 - m) m d (Nat.le_refl _) (by omega) (by omega) (by omega)
    rw [hs] at k1 hsz
    unfold Sort.heapBuild at hd
    obtain ⟨d2, hd2⟩ : ∃ d2, Sort.siftDown (ltZ z) l a m d = d2 := ⟨_, rfl⟩
    rw [hd2] at k1 hsz hd
    have w3 : IntKind.i64.wrap ((m : Int) - 1) = (m : Int) - 1 := wrap_i64 (by omega) (by omega)
    refine Rkf (jn2 @e11 @hge) ?_
    refine Bt ?_
    refine AWP.skip ?_
    refine Ev ?_
    refine AWP.seq ?_
    refine AWP.block ?_
    refine Raf (jn5 @e0 @e3 @e8 @e10 @e11) (fun E K hE hK => ?_)
    refine Us k1 body_197 ?_
    refine hK _ _ _ ?_; clear hE hK K E
    refine Ev ?_
    refine Raf (jn2 @e11 @w3) (fun E K hE hK => ?_); refine hK _ _ _ ?_; clear hE hK K E
    refine ⟨m, by omega, d2, by omega, hd, ?_, by exact Erf @e3, by exact Erf @e8, by exact Erf @e9, by exact Erf @e10, by exact Er⟩
    exact RwAt.cut hid hT hlow ⟨_, b, ι, h, w, x0⟩ rfl hsz (by exact Er) (fun x hx hne => by refine Evf @hne ?_; exact ho x hx hne) (by exact Ecf @e0)
 rintro ⟨t, hh, n⟩ ⟨rfl, ⟨hs, hb, ho, e0⟩, e3, e8, e9, e10⟩
 simp only at hb ho e0 e3 e8 e9 e10
 clear hdf
 have w4 : IntKind.i64.wrap ((l : Int) - 1) = (l : Int) - 1 := wrap_i64 (by omega) (by omega)
 refine Rkf (jn2 @e10 @w4) ?_
 refine AWP.block ?_
 refine AWP.loopM 0 (fun m st => ∃ d, m ≤ l ∧ Sort.heapPop (ltZ z) a m d = Sort.heapPop (ltZ z) a l df ∧ RwAt h b id ver cap N T d st ∧ st.t 3 = cloV g ∧ st.t 8 = IntV a ∧ st.t 9 = IntV (0 : Nat) ∧ st.t 12 = .one (.p (.v (.int .i64 ((m : Int) - 1))))) l rfl ⟨df, Nat.le_refl _, rfl, ⟨hs, hb, ho, by exact Ecf @e0⟩, by exact Ecf @e3, by exact Ecf @e8, by exact Ecf @e9, by exact Er⟩ ?_
 clear hb ho e0 e3 e8 e9 e10 hs
 rintro m ⟨t, hh, n⟩ ⟨d, hm, hd, ⟨hs, hb, ho, e0⟩, e3, e8, e9, e12⟩ hn1
 simp only at hb ho e0 e3 e8 e9 e12 hn1
 subst hn1
 refine AWP.seq ?_
 cases m with
 | zero =>
   have hge : ¬ (((0 : Nat) : Int) - 1) ≥ 0 := by decide
   refine Rkf (jn2 @e12 @hge) ?_
   refine Bf ?_
   refine AWP.exit ?_
   refine Ev ?_
   exact RwAt.ends (C := ⟨_, b, ι, h, w, x0⟩) hid hT hn H hb ho rfl (frz_tup0 _ _) ⟨rfl, by rw [← hd]; rfl⟩
 | succ m =>
   have hge : (((m + 1 : Nat) : Int) - 1) ≥ 0 := by omega
   have hm1 : (((m + 1 : Nat) : Int) - 1) = (m : Int) := by omega
   rw [hm1] at e12 hge
   have m7 := w_add (a := a) (c := m) (by omega)
   obtain ⟨Y, hY⟩ : ∃ Y, a + m = Y := ⟨_, rfl⟩
   rw [show Sort.heapPop (ltZ z) a (m + 1) d = Sort.heapPop (ltZ z) a m (Sort.siftDown (ltZ z) m a 0 (Sort.swp d a (a + m))) from rfl] at hd
   rw [hY] at m7 hd
   have w3 : IntKind.i64.wrap ((m : Int) - 1) = (m : Int) - 1 := wrap_i64 (by omega) (by omega)
   refine Rkf (jn2 @e12 @hge) ?_
   refine Bt ?_
   refine AWP.skip ?_
   refine Ev ?_
   refine AWP.seq ?_
   refine AWP.block ?_
   rw [← hs] at e0
   have la : a < d.size := by omega
   have lb : Y < d.size := by omega
   have la' : ((a : Nat) : Int) < d.size := by omega
   have lb' : ((Y : Nat) : Int) < d.size := by omega
   have hpa := celQ_get d T a la
   have hpb := celQ_get d T Y lb
   have hs1 := celQ_set d T a la d[Y]!
   have hs2 := celQ_set (d.setIfInBounds a d[Y]!) T Y (by rw [Array.size_setIfInBounds]; exact lb) d[a]!
   rw [show (d.setIfInBounds a d[Y]!).setIfInBounds Y d[a]! = Sort.swp d a Y from rfl] at hs2
   have hb' : hh id = some ⟨ver, celQ d T⟩ := hb
   have hlL := celQ_len d T
   have hlL2 := celQ_len (d.setIfInBounds a d[Y]!) T
   rw [Array.size_setIfInBounds] at hlL2
   obtain ⟨vx, hvx⟩ : ∃ v, d[a]! = v := ⟨_, rfl⟩
   obtain ⟨vy, hvy⟩ : ∃ v, d[Y]! = v := ⟨_, rfl⟩
   rw [hvx] at hpa hs2
   rw [hvy] at hpb hs1 hs2 hlL2
   generalize celQ (d.setIfInBounds a vy) T = L2 at hs1 hs2 hlL2
   generalize celQ d T = L1 at hpa hpb hs1 hb' hlL
   refine AWP.seq ?_
   refine AWP.rgD [47, 51] [] [id] mixed (by kernel_rfl) (by kernel_rfl) (fun K hK => ?_) (by kernel_rfl); simp -implicitDefEqProofs only [go_sem, ↓reduceIte, Nat.reduceEqDiff, Nat.reduceAdd, Nat.reduceLT, Nat.reduceLeDiff, reduceCtorEq, Int.toNat_natCast, e0, e8, e12, m7, hb', hpa, hpb, la', lb', hs1, hs2]
   repeat (first | (refine ⟨⟨by omega, by omega⟩, ?_⟩) | (refine ⟨by omega, ?_⟩) | (refine ⟨sub_ers _ _, ?_⟩) | (refine ⟨sub_at _ hb', ?_⟩))
   refine hK _ _ _ ?_; clear hK K
   refine Ev ?_
   have hd1 := swp_size d a Y
   have k1 := siftDown_ok cm (b := b + 0) (cap := cap) (kk (upd hh id (rowQ ver (Sort.swp d a Y) T)) (Sort.swp d a Y) ⟨by rw [hd1, hs], upd_same hh id _, fun x hx hne => (upd_ne _ _ _ _ hne).trans (ho x hx hne), rfl⟩) hid 0 m a (by omega) (by omega)
   have hsz := sift_size (ltZ z) m a 2000000001 0 (Sort.swp d a Y) (by omega) (by omega) (by omega) (by omega)
   rw [hd1, hs] at hsz
   rw [hd1] at k1
   obtain ⟨d2, hd2⟩ : ∃ d2, Sort.siftDown (ltZ z) m a 0 (Sort.swp d a Y) = d2 := ⟨_, rfl⟩
   rw [hd2] at k1 hsz hd
   refine Raf (jn5 @e0 @e3 @e8 @e9 @e12) (fun E K hE hK => ?_)
   refine Us k1 body_197 ?_
   refine hK _ _ _ ?_; clear hE hK K E
   refine Ev ?_
   refine Raf (jn2 @e12 @w3) (fun E K hE hK => ?_); refine hK _ _ _ ?_; clear hE hK K E
   refine ⟨m, by omega, d2, by omega, hd, ?_, by exact Erf @e3, by exact Erf @e8, by exact Erf @e9, by exact Er⟩
   exact RwAt.cut hid hT hlow ⟨_, b, ι, h, w, x0⟩ rfl hsz (by exact Er) (fun x hx hne => by refine Evf @hne ?_; exact ho x hx hne) (by exact Ecf (jn2 @e0 @hs))
structure PtAt (h : Heap) (b id ver cap N : Nat) (T : List Cell) (d : Array El) (a : Nat) (g : FuncId) (I J i j : Nat) (st : St) : Prop where
 n : st.n = 0
 row : RwAt h b id ver cap N T d st
 a : st.t 1 = IntV a
 g : st.t 4 = cloV g
 i : st.t I = IntV i
 j : st.t J = IntV j
theorem PtAt.cut {h : Heap} {b id ver cap N : Nat} {T : List Cell} {d : Array El} {a : Nat} {g : FuncId} {I J i j : Nat} {st : St} (hid : id < b) (hT : lowCs 0 T = true) (hlow : ∀ id blk, h id = some blk → ∀ c ∈ blk.cells, lowC b c = true) (C : Ctx) (hC : C.b = b)
  (k : PtAt h b id ver cap N T d a g I J i j st) : PtAt h b id ver cap N T d a g I J i j (st.cut C 0) := by
 obtain ⟨t, hh, n⟩ := st
 obtain ⟨_, ⟨h1, h2, h3, h4⟩, h5, h6, h7, h8⟩ := k
 simp only at h2 h3 h4 h5 h6 h7 h8
 refine ⟨rfl, RwAt.cut hid hT hlow C hC h1 h2 h3 h4, ?_, ?_, ?_, ?_⟩
 ·show cutV _ (t 1) = _; rw [h5]; rfl
 ·show cutV _ (t 4) = _; rw [h6]; rfl
 ·show cutV _ (t I) = _; rw [h7]; rfl
 ·show cutV _ (t J) = _; rw [h8]; rfl
theorem part_size (lt : El → El → Bool) (a : Nat) : ∀ (n i j : Nat) (d : Array El), j + 1 - i ≤ n → (Sort.partLoop lt a i j d).2.size = d.size := by
 intro n
 induction n with
 | zero =>
   intro i j d hn
   rw [Sort.partLoop_eq]
   split
   ·rfl
   ·have := Sort.partLoop_guard lt a i j d (by assumption); omega
 | succ n ih =>
   intro i j d hn
   rw [Sort.partLoop_eq]
   split
   ·rfl
   ·have := Sort.partLoop_guard lt a i j d (by assumption)
    rw [ih _ _ _ (by omega), swp_size]
theorem partitionEqual_ok {g : FuncId} {z : El → El → Int} (cm : CmpQ g z) {h : Heap} {b id ver cap : Nat} {d0 : Array El} {T : List Cell} (k : PdAt h id ver d0 T) (hid : id < b) (a e p : Nat) (hap : a ≤ p) (hpe : p < e) (he : e ≤ d0.size) :
  ACalls Tryz.prog 165 [winQ id ver cap d0.size, IntV a, IntV e, IntV p, cloV g] h b 0
   (fun r h' => r = IntV (Sort.partitionEqual (ltZ z) d0 a e p).1 ∧ h' = upd h id (rowQ ver (Sort.partitionEqual (ltZ z) d0 a e p).2 T)) := by
 refine ACalls.enter Tryz.func165 rfl (by simp [Tryz.ntmps165]) (fun ι w hn H => ?_)
 have hlow := H.lowCells
 have hz := k.size
 obtain ⟨N, hN⟩ : ∃ N, d0.size = N := ⟨_, rfl⟩
 have hrow := k.row
 have hT := k.low
 rw [hN] at hz he ⊢
 unfold Sort.partitionEqual
 obtain ⟨R, hR⟩ : ∃ R, Sort.partEqLoop (ltZ z) a (a + 1) (e - 1) (Sort.swp d0 a p) = R := ⟨_, rfl⟩
 rw [hR]
 have w1 := w_add1 (a := a) (by omega)
 have w2 := w_sub1 (a := e) (by omega) (by omega)
 obtain ⟨hh, hhh⟩ : ∃ hh, hh = h := ⟨_, rfl⟩
 have hb : hh id = some (rowQ ver d0 T) := by rw [hhh]; exact hrow
 have ho : ∀ x, x < b → x ≠ id → hh x = h x := fun x _ _ => by rw [hhh]
 refine Rk ?_
 rw [show (⟨_, h, 0⟩ : St) = ⟨_, hh, 0⟩ by rw [hhh]]
 clear hhh
 rw [← hN]
 have la : a < d0.size := by omega
 have lb : p < d0.size := by omega
 have la' : ((a : Nat) : Int) < d0.size := by omega
 have lb' : ((p : Nat) : Int) < d0.size := by omega
 have hpa := celQ_get d0 T a la
 have hpb := celQ_get d0 T p lb
 have hs1 := celQ_set d0 T a la d0[p]!
 have hs2 := celQ_set (d0.setIfInBounds a d0[p]!) T p (by rw [Array.size_setIfInBounds]; exact lb) d0[a]!
 rw [show (d0.setIfInBounds a d0[p]!).setIfInBounds p d0[a]! = Sort.swp d0 a p from rfl] at hs2
 have hb' : hh id = some ⟨ver, celQ d0 T⟩ := hb
 have hlL := celQ_len d0 T
 have hlL2 := celQ_len (d0.setIfInBounds a d0[p]!) T
 rw [Array.size_setIfInBounds] at hlL2
 obtain ⟨vx, hvx⟩ : ∃ v, d0[a]! = v := ⟨_, rfl⟩
 obtain ⟨vy, hvy⟩ : ∃ v, d0[p]! = v := ⟨_, rfl⟩
 rw [hvx] at hpa hs2
 rw [hvy] at hpb hs1 hs2 hlL2
 generalize celQ (d0.setIfInBounds a vy) T = L2 at hs1 hs2 hlL2
 generalize celQ d0 T = L1 at hpa hpb hs1 hb' hlL
 refine AWP.seq ?_
 refine AWP.rgD [20, 24] [] [id] mixed (by kernel_rfl) (by kernel_rfl) (fun K hK => ?_) (by kernel_rfl); simp -implicitDefEqProofs only [go_sem, ↓reduceIte, Nat.reduceEqDiff, Nat.reduceAdd, Nat.reduceLT, Nat.reduceLeDiff, reduceCtorEq, Int.toNat_natCast, hb', hpa, hpb, la', lb', hs1, hs2]
 repeat (first | (refine ⟨⟨by omega, by omega⟩, ?_⟩) | (refine ⟨by omega, ?_⟩) | (refine ⟨sub_ers _ _, ?_⟩) | (refine ⟨sub_at _ hb', ?_⟩))
 refine hK _ _ _ ?_; clear hK K
 refine Ev ?_
 refine Rkf (jn2 @w1 @w2) ?_
 have hs : (Sort.swp d0 a p).size = N := by rw [swp_size, hN]
 have hda := hs
 refine AWP.seq ?_
 refine AWP.block ?_
 refine AWP.loopM 0 (fun m st => ∃ i j d, m = j + 1 - i ∧ a < i ∧ j < e ∧ Sort.partEqLoop (ltZ z) a i j d = R ∧ PtAt h b id ver cap N T d a g 11 12 i j st) (e - 1 + 1 - (a + 1)) rfl ⟨a + 1, e - 1, _, rfl, by omega, by omega, hR, ⟨rfl, ⟨hs, by exact Er, fun x hx hne => by refine Evf @hne ?_; exact ho x hx hne, by exact Ecf @hN⟩, by exact Er, by exact Er, by exact Er, by exact Er⟩⟩ ?_
 clear hR hb ho hb' hpa hpb hs1 hs2 hlL hlL2 hvx hvy la lb la' lb' w1 w2 hs hda
 rintro m ⟨t, hh, n⟩ ⟨i, j, d, rfl, hai, hje, hR, hn0, ⟨hs, hb, ho, e0⟩, e1, e4, eI, eJ⟩ hn1
 simp only at hn0 hb ho e0 e1 e4 eI eJ hn1
 subst hn0
 rw [Sort.partEqLoop_eq] at hR
 refine AWP.block ?_
 refine AWP.mid (PtAt h b id ver cap N T d a g 11 12 (Sort.scanUp (fun x => !ltZ z d[a]! x) d j i) (j)) ?_ ?_
 ·refine AWP.block ?_
  obtain ⟨sx, hsx⟩ : ∃ sx, Sort.scanUp (fun x => !ltZ z d[a]! x) d j i = sx := ⟨_, rfl⟩
  rw [hsx]
  refine AWP.loopM 0 (fun m st => ∃ x, m = j + 1 - x ∧ a < x ∧ Sort.scanUp (fun x => !ltZ z d[a]! x) d j x = sx ∧ PtAt h b id ver cap N T d a g 11 12 (x) (j) st) (j + 1 - i) rfl ⟨i, rfl, by omega, hsx, ⟨rfl, ⟨hs, hb, ho, by exact Ecf @e0⟩, by exact Ecf @e1, by exact Ecf @e4, by exact Ecf @eI, by exact Ecf @eJ⟩⟩ ?_
  clear hsx hb ho e0 e1 e4 eI eJ hs
  rintro m ⟨t, hh, n⟩ ⟨x, rfl, hax, hsx, hn0, ⟨hs, hb, ho, e0⟩, e1, e4, eI, eJ⟩ hn1
  simp only at hn0 hb ho e0 e1 e4 eI eJ hn1
  subst hn0
  rw [Sort.scanUp] at hsx
  refine AWP.seq ?_
  by_cases hle : x ≤ j
  ·have hle' : (x : Int) ≤ (j : Nat) := by omega
   rw [← hs] at e0
   have la : a < d.size := by omega
   have lb : x < d.size := by omega
   have la' : ((a : Nat) : Int) < d.size := by omega
   have lb' : ((x : Nat) : Int) < d.size := by omega
   have hpa := celQ_get d T a la
   have hpb := celQ_get d T x lb
   have hb' : hh id = some ⟨ver, celQ d T⟩ := hb
   have hlL := celQ_len d T
   obtain ⟨vx, hvx⟩ : ∃ v, d[a]! = v := ⟨_, rfl⟩
   obtain ⟨vy, hvy⟩ : ∃ v, d[x]! = v := ⟨_, rfl⟩
   rw [hvx] at hpa
   rw [hvy] at hpb
   generalize celQ d T = L1 at hpa hpb hb' hlL
   refine AWP.seqRegDG [] [] [] mixed (drawF_ok (by kernel_rfl)) (by kernel_rfl) (fun K hK => ?_); simp -implicitDefEqProofs only [go_sem, ↓reduceIte, Nat.reduceEqDiff, Nat.reduceAdd, Nat.reduceLT, Nat.reduceLeDiff, reduceCtorEq, Int.toNat_natCast, e0, e1, e4, eI, eJ, hle', hb', hpa, hpb, la', lb']
   repeat (first | (refine Gdf 34 (jn5 @e0 @e1 @e4 @eI (jn7 @eJ @hle' @hb' @hpa @hpb @la' @lb')) ?_) | (refine ⟨by omega, ?_⟩))
   refine Ud (cm.calls vx vy _ _) cm.body ?_
   by_cases hz1 : z vx vy < 0
   ·repeat (first | (refine Gdf 34 @hz1 ?_) | (refine ⟨by omega, ?_⟩))
    rw [if_neg (by show ¬ (decide (x ≤ j) && !ltZ z d[a]! d[x]!) = true; rw [hvx, hvy]; simp [hz1])] at hsx
    refine hK _ _ _ ?_; clear hK K
    refine Bf ?_
    refine AWP.exit ?_
    refine Ev ?_
    subst hsx
    exact ⟨rfl, ⟨hs, hb, ho, by exact Ecf (jn2 @e0 @hs)⟩, by exact Ecf @e1, by exact Ecf @e4, by exact Ecf @eI, by exact Ecf @eJ⟩
   ·repeat (first | (refine Gdf 34 @hz1 ?_) | (refine ⟨by omega, ?_⟩))
    rw [if_pos (by show (decide (x ≤ j) && !ltZ z d[a]! d[x]!) = true; rw [hvx, hvy]; simp [hle, hz1])] at hsx
    refine hK _ _ _ ?_; clear hK K
    refine Bt ?_
    refine AWP.skip ?_
    refine Ev ?_
    refine AWP.block ?_
    have w9 := w_add1 (a := x) (by omega)
    refine Raf (jn2 @eI @w9) (fun E K hE hK => ?_); refine hK _ _ _ ?_; clear hE hK K E
    exact ⟨j + 1 - (x + 1), by omega, x + 1, rfl, by omega, hsx, PtAt.cut hid hT hlow _ rfl ⟨rfl, ⟨hs, hb, ho, by exact Ecf (jn2 @e0 @hs)⟩, by exact Ecf @e1, by exact Ecf @e4, by exact Er, by exact Ecf @eJ⟩⟩
  ·have hle' : ¬ (x : Int) ≤ (j : Nat) := by omega
   rw [if_neg (by simp [hle])] at hsx
   refine AWP.seqRegDG [] [] [] mixed (drawF_ok (by kernel_rfl)) (by kernel_rfl) (fun K hK => ?_); simp -implicitDefEqProofs only [go_sem, ↓reduceIte, Nat.reduceEqDiff, Nat.reduceAdd, Nat.reduceLT, Nat.reduceLeDiff, reduceCtorEq, Int.toNat_natCast, e0, e1, e4, eI, eJ, hle']
   repeat (first | (refine Gdf 34 @hle' ?_) | (refine ⟨by omega, ?_⟩))
   refine hK _ _ _ ?_; clear hK K
   refine Bf ?_
   refine AWP.exit ?_
   refine Ev ?_
   subst hsx
   exact ⟨rfl, ⟨hs, hb, ho, by exact Ecf @e0⟩, by exact Ecf @e1, by exact Ecf @e4, by exact Ecf @eI, by exact Ecf @eJ⟩
 clear hb ho e0 e1 e4 eI eJ hs
 rintro ⟨t, hh, n⟩ ⟨hn0, ⟨hs, hb, ho, e0⟩, e1, e4, eI, eJ⟩
 simp only at hn0 hb ho e0 e1 e4 eI eJ
 subst hn0
 have hge := Sort.scanUp_ge (fun x => !ltZ z d[a]! x) d j i
 obtain ⟨i2, hi2⟩ : ∃ i2, Sort.scanUp (fun x => !ltZ z d[a]! x) d j i = i2 := ⟨_, rfl⟩
 rw [hi2] at eI hR hge
 clear hi2
 refine AWP.mid (PtAt h b id ver cap N T d a g 11 12 (i2) (Sort.scanDown (fun x => ltZ z d[a]! x) d i2 j)) ?_ ?_
 ·refine AWP.block ?_
  obtain ⟨sx, hsx⟩ : ∃ sx, Sort.scanDown (fun x => ltZ z d[a]! x) d i2 j = sx := ⟨_, rfl⟩
  rw [hsx]
  refine AWP.loopM 0 (fun x st => x ≤ j ∧ Sort.scanDown (fun x => ltZ z d[a]! x) d i2 x = sx ∧ PtAt h b id ver cap N T d a g 11 12 (i2) (x) st) (j) rfl ⟨Nat.le_refl _, hsx, ⟨rfl, ⟨hs, hb, ho, by exact Ecf @e0⟩, by exact Ecf @e1, by exact Ecf @e4, by exact Ecf @eI, by exact Ecf @eJ⟩⟩ ?_
  clear hsx hb ho e0 e1 e4 eI eJ hs
  rintro x ⟨t, hh, n⟩ ⟨hxj, hsx, hn0, ⟨hs, hb, ho, e0⟩, e1, e4, eI, eJ⟩ hn1
  simp only at hn0 hb ho e0 e1 e4 eI eJ hn1
  subst hn0
  refine AWP.seq ?_
  by_cases hle : i2 ≤ x
  ·have hle' : ((i2 : Nat) : Int) ≤ (x : Int) := by omega
   rw [← hs] at e0
   have hsx1 : (if (decide (i2 ≤ x) && (fun x => ltZ z d[a]! x) d[x]!) = true then Sort.scanDown (fun x => ltZ z d[a]! x) d i2 (x - 1) else x) = sx := by
    cases x with
    | zero => omega
    | succ y => exact hsx
   replace hsx := hsx1
   clear hsx1
   have la : a < d.size := by omega
   have lb : x < d.size := by omega
   have la' : ((a : Nat) : Int) < d.size := by omega
   have lb' : ((x : Nat) : Int) < d.size := by omega
   have hpa := celQ_get d T a la
   have hpb := celQ_get d T x lb
   have hb' : hh id = some ⟨ver, celQ d T⟩ := hb
   have hlL := celQ_len d T
   obtain ⟨vx, hvx⟩ : ∃ v, d[a]! = v := ⟨_, rfl⟩
   obtain ⟨vy, hvy⟩ : ∃ v, d[x]! = v := ⟨_, rfl⟩
   rw [hvx] at hpa
   rw [hvy] at hpb
   generalize celQ d T = L1 at hpa hpb hb' hlL
   refine AWP.seqRegDG [] [] [] mixed (drawF_ok (by kernel_rfl)) (by kernel_rfl) (fun K hK => ?_); simp -implicitDefEqProofs only [go_sem, ↓reduceIte, Nat.reduceEqDiff, Nat.reduceAdd, Nat.reduceLT, Nat.reduceLeDiff, reduceCtorEq, Int.toNat_natCast, e0, e1, e4, eI, eJ, hle', hb', hpa, hpb, la', lb']
   repeat (first | (refine Gdf 53 (jn5 @e0 @e1 @e4 @eI (jn7 @eJ @hle' @hb' @hpa @hpb @la' @lb')) ?_) | (refine ⟨by omega, ?_⟩))
   refine Ud (cm.calls vx vy _ _) cm.body ?_
   by_cases hz1 : z vx vy < 0
   ·repeat (first | (refine Gdf 53 @hz1 ?_) | (refine ⟨by omega, ?_⟩))
    rw [if_pos (by show (decide (i2 ≤ x) && ltZ z d[a]! d[x]!) = true; rw [hvx, hvy]; simp [hle, hz1])] at hsx
    refine hK _ _ _ ?_; clear hK K
    refine Bt ?_
    refine AWP.skip ?_
    refine Ev ?_
    refine AWP.block ?_
    have w9 := w_sub1 (a := x) (by omega) (by omega)
    refine Raf (jn2 @eJ @w9) (fun E K hE hK => ?_); refine hK _ _ _ ?_; clear hE hK K E
    exact ⟨x - 1, by omega, by omega, hsx, PtAt.cut hid hT hlow _ rfl ⟨rfl, ⟨hs, hb, ho, by exact Ecf (jn2 @e0 @hs)⟩, by exact Ecf @e1, by exact Ecf @e4, by exact Ecf @eI, by exact Er⟩⟩
   ·repeat (first | (refine Gdf 53 @hz1 ?_) | (refine ⟨by omega, ?_⟩))
    rw [if_neg (by show ¬ (decide (i2 ≤ x) && ltZ z d[a]! d[x]!) = true; rw [hvx, hvy]; simp [hz1])] at hsx
    refine hK _ _ _ ?_; clear hK K
    refine Bf ?_
    refine AWP.exit ?_
    refine Ev ?_
    subst hsx
    exact ⟨rfl, ⟨hs, hb, ho, by exact Ecf (jn2 @e0 @hs)⟩, by exact Ecf @e1, by exact Ecf @e4, by exact Ecf @eI, by exact Ecf @eJ⟩
  ·have hle' : ¬ ((i2 : Nat) : Int) ≤ (x : Int) := by omega
   have hsx1 : x = sx := by
    cases x with
    | zero => exact hsx
    | succ y => rw [Sort.scanDown, if_neg (by simp; omega)] at hsx; exact hsx
   replace hsx := hsx1
   clear hsx1
   refine AWP.seqRegDG [] [] [] mixed (drawF_ok (by kernel_rfl)) (by kernel_rfl) (fun K hK => ?_); simp -implicitDefEqProofs only [go_sem, ↓reduceIte, Nat.reduceEqDiff, Nat.reduceAdd, Nat.reduceLT, Nat.reduceLeDiff, reduceCtorEq, Int.toNat_natCast, e0, e1, e4, eI, eJ, hle']
   repeat (first | (refine Gdf 53 @hle' ?_) | (refine ⟨by omega, ?_⟩))
   refine hK _ _ _ ?_; clear hK K
   refine Bf ?_
   refine AWP.exit ?_
   refine Ev ?_
   subst hsx
   exact ⟨rfl, ⟨hs, hb, ho, by exact Ecf @e0⟩, by exact Ecf @e1, by exact Ecf @e4, by exact Ecf @eI, by exact Ecf @eJ⟩
 clear hb ho e0 e1 e4 eI eJ hs
 rintro ⟨t, hh, n⟩ ⟨hn0, ⟨hs, hb, ho, e0⟩, e1, e4, eI, eJ⟩
 simp only at hn0 hb ho e0 e1 e4 eI eJ
 subst hn0
 have hle := Sort.scanDown_le (fun x => ltZ z d[a]! x) d i2 j
 obtain ⟨j2, hj2⟩ : ∃ j2, Sort.scanDown (fun x => ltZ z d[a]! x) d i2 j = j2 := ⟨_, rfl⟩
 rw [hj2] at eJ hR hle
 clear hj2
 refine AWP.seq ?_
 by_cases hgt : i2 > j2
 ·have hgt' : ((j2 : Nat) : Int) < (i2 : Int) := by omega
  rw [if_pos hgt] at hR
  refine Rkf (jn3 @eI @eJ @hgt') ?_
  refine Bt ?_
  refine AWP.exit ?_
  refine Ev ?_
  subst hR
  refine Rkf @eI ?_
  refine AWP.ret ?_
  refine Ev ?_
  exact RwAt.ends (C := ⟨_, b, ι, h, w, x0⟩) hid hT hn H hb ho (r := IntV i2) (by rw [show Tryz.f165.results.toList = [.tmp 10] from rfl]; exact Er) (.v _) ⟨rfl, rfl⟩
 ·have hgt' : ¬ ((j2 : Nat) : Int) < (i2 : Int) := by omega
  rw [if_neg hgt] at hR
  refine Rkf (jn3 @eI @eJ @hgt') ?_
  refine Bs ?_
  have w1 := w_add1 (a := i2) (by omega)
  have w2 := w_sub1 (a := j2) (by omega) (by omega)
  rw [← hs] at e0
  have la : i2 < d.size := by omega
  have lb : j2 < d.size := by omega
  have la' : ((i2 : Nat) : Int) < d.size := by omega
  have lb' : ((j2 : Nat) : Int) < d.size := by omega
  have hpa := celQ_get d T i2 la
  have hpb := celQ_get d T j2 lb
  have hs1 := celQ_set d T i2 la d[j2]!
  have hs2 := celQ_set (d.setIfInBounds i2 d[j2]!) T j2 (by rw [Array.size_setIfInBounds]; exact lb) d[i2]!
  rw [show (d.setIfInBounds i2 d[j2]!).setIfInBounds j2 d[i2]! = Sort.swp d i2 j2 from rfl] at hs2
  have hb' : hh id = some ⟨ver, celQ d T⟩ := hb
  have hlL := celQ_len d T
  have hlL2 := celQ_len (d.setIfInBounds i2 d[j2]!) T
  rw [Array.size_setIfInBounds] at hlL2
  obtain ⟨vx, hvx⟩ : ∃ v, d[i2]! = v := ⟨_, rfl⟩
  obtain ⟨vy, hvy⟩ : ∃ v, d[j2]! = v := ⟨_, rfl⟩
  rw [hvx] at hpa hs2
  rw [hvy] at hpb hs1 hs2 hlL2
  generalize celQ (d.setIfInBounds i2 vy) T = L2 at hs1 hs2 hlL2
  generalize celQ d T = L1 at hpa hpb hs1 hb' hlL
  refine AWP.seq ?_
  refine AWP.rgD [78, 82] [] [id] mixed (by kernel_rfl) (by kernel_rfl) (fun K hK => ?_) (by kernel_rfl); simp -implicitDefEqProofs only [go_sem, ↓reduceIte, Nat.reduceEqDiff, Nat.reduceAdd, Nat.reduceLT, Nat.reduceLeDiff, reduceCtorEq, Int.toNat_natCast, e0, eI, eJ, hb', hpa, hpb, la', lb', hs1, hs2]
  repeat (first | (refine ⟨⟨by omega, by omega⟩, ?_⟩) | (refine ⟨by omega, ?_⟩) | (refine ⟨sub_ers _ _, ?_⟩) | (refine ⟨sub_at _ hb', ?_⟩))
  refine hK _ _ _ ?_; clear hK K
  refine Ev ?_
  refine Rkf (jn2 @eI @w1) ?_
  refine Raf (jn2 @eJ @w2) (fun E K hE hK => ?_); refine hK _ _ _ ?_; clear hE hK K E
  refine ⟨j2 - 1 + 1 - (i2 + 1), by omega, i2 + 1, j2 - 1, _, rfl, by omega, by omega, hR, PtAt.cut hid hT hlow _ rfl ⟨rfl, ⟨by rw [swp_size, hs], by exact Er, fun x hx hne => by refine Evf @hne ?_; exact ho x hx hne, by exact Ecf (jn2 @e0 @hs)⟩, by exact Ecf @e1, by exact Ecf @e4, by exact Er, by exact Er⟩⟩
theorem partition_ok {g : FuncId} {z : El → El → Int} (cm : CmpQ g z) {h : Heap} {b id ver cap : Nat} {d0 : Array El} {T : List Cell} (k : PdAt h id ver d0 T) (hid : id < b) (a e p : Nat) (hap : a ≤ p) (hpe : p < e) (he : e ≤ d0.size) :
  ACalls Tryz.prog 166 [winQ id ver cap d0.size, IntV a, IntV e, IntV p, cloV g] h b 0
   (fun r h' => r = .tup [IntV (Sort.partition (ltZ z) d0 a e p).1, BoolV (Sort.partition (ltZ z) d0 a e p).2.1] ∧ h' = upd h id (rowQ ver (Sort.partition (ltZ z) d0 a e p).2.2 T)) := by
 refine ACalls.enter Tryz.func166 rfl (by simp [Tryz.ntmps166]) (fun ι w hn H => ?_)
 have hlow := H.lowCells
 have hz := k.size
 obtain ⟨N, hN⟩ : ∃ N, d0.size = N := ⟨_, rfl⟩
 have hrow := k.row
 have hT := k.low
 rw [hN] at hz he ⊢
 obtain ⟨R, hR⟩ : ∃ R, Sort.partition (ltZ z) d0 a e p = R := ⟨_, rfl⟩
 rw [hR]
 unfold Sort.partition at hR
 have w1 := w_add1 (a := a) (by omega)
 have w2 := w_sub1 (a := e) (by omega) (by omega)
 obtain ⟨hh, hhh⟩ : ∃ hh, hh = h := ⟨_, rfl⟩
 have hb : hh id = some (rowQ ver d0 T) := by rw [hhh]; exact hrow
 have ho : ∀ x, x < b → x ≠ id → hh x = h x := fun x _ _ => by rw [hhh]
 refine Rk ?_
 rw [show (⟨_, h, 0⟩ : St) = ⟨_, hh, 0⟩ by rw [hhh]]
 clear hhh
 rw [← hN]
 have la : a < d0.size := by omega
 have lb : p < d0.size := by omega
 have la' : ((a : Nat) : Int) < d0.size := by omega
 have lb' : ((p : Nat) : Int) < d0.size := by omega
 have hpa := celQ_get d0 T a la
 have hpb := celQ_get d0 T p lb
 have hs1 := celQ_set d0 T a la d0[p]!
 have hs2 := celQ_set (d0.setIfInBounds a d0[p]!) T p (by rw [Array.size_setIfInBounds]; exact lb) d0[a]!
 rw [show (d0.setIfInBounds a d0[p]!).setIfInBounds p d0[a]! = Sort.swp d0 a p from rfl] at hs2
 have hb' : hh id = some ⟨ver, celQ d0 T⟩ := hb
 have hlL := celQ_len d0 T
 have hlL2 := celQ_len (d0.setIfInBounds a d0[p]!) T
 rw [Array.size_setIfInBounds] at hlL2
 obtain ⟨vx, hvx⟩ : ∃ v, d0[a]! = v := ⟨_, rfl⟩
 obtain ⟨vy, hvy⟩ : ∃ v, d0[p]! = v := ⟨_, rfl⟩
 rw [hvx] at hpa hs2
 rw [hvy] at hpb hs1 hs2 hlL2
 generalize celQ (d0.setIfInBounds a vy) T = L2 at hs1 hs2 hlL2
 generalize celQ d0 T = L1 at hpa hpb hs1 hb' hlL
 refine AWP.seq ?_
 refine AWP.rgD [21, 25] [] [id] mixed (by kernel_rfl) (by kernel_rfl) (fun K hK => ?_) (by kernel_rfl); simp -implicitDefEqProofs only [go_sem, ↓reduceIte, Nat.reduceEqDiff, Nat.reduceAdd, Nat.reduceLT, Nat.reduceLeDiff, reduceCtorEq, Int.toNat_natCast, hb', hpa, hpb, la', lb', hs1, hs2]
 repeat (first | (refine ⟨⟨by omega, by omega⟩, ?_⟩) | (refine ⟨by omega, ?_⟩) | (refine ⟨sub_ers _ _, ?_⟩) | (refine ⟨sub_at _ hb', ?_⟩))
 refine hK _ _ _ ?_; clear hK K
 refine Ev ?_
 refine Rkf (jn2 @w1 @w2) ?_
 obtain ⟨d, hd⟩ : ∃ d, Sort.swp d0 a p = d := ⟨_, rfl⟩
 have hs : d.size = N := by rw [← hd, swp_size, hN]
 dsimp only at hR
 rw [hd] at hR hs2
 refine awp_st (PtAt h b id ver cap N T d a g 12 13 (a + 1) (e - 1)) ⟨rfl, ⟨hs, by exact Erf @hd, fun x hx hne => by refine Evf @hne ?_; exact ho x hx hne, by exact Ecf @hN⟩, by exact Er, by exact Er, by exact Er, by exact Er⟩ ?_
 clear hb ho hb' hpa hpb hs1 hs2 hlL hlL2 hvx hvy la lb la' lb' w1 w2 hs hd hN hh k
 rintro ⟨t, hh, n⟩ ⟨hn0, ⟨hs, hb, ho, e0⟩, e1, e4, eI, eJ⟩
 simp only at hn0 hb ho e0 e1 e4 eI eJ
 subst hn0
 refine AWP.mid (PtAt h b id ver cap N T d a g 12 13 (Sort.scanUp (fun x => ltZ z x d[a]!) d (e - 1) (a + 1)) ((e - 1))) ?_ ?_
 ·refine AWP.block ?_
  obtain ⟨sx, hsx⟩ : ∃ sx, Sort.scanUp (fun x => ltZ z x d[a]!) d (e - 1) (a + 1) = sx := ⟨_, rfl⟩
  rw [hsx]
  refine AWP.loopM 0 (fun m st => ∃ x, m = (e - 1) + 1 - x ∧ a < x ∧ Sort.scanUp (fun x => ltZ z x d[a]!) d (e - 1) x = sx ∧ PtAt h b id ver cap N T d a g 12 13 (x) ((e - 1)) st) ((e - 1) + 1 - (a + 1)) rfl ⟨(a + 1), rfl, by omega, hsx, ⟨rfl, ⟨hs, hb, ho, by exact Ecf @e0⟩, by exact Ecf @e1, by exact Ecf @e4, by exact Ecf @eI, by exact Ecf @eJ⟩⟩ ?_
  clear hsx hb ho e0 e1 e4 eI eJ hs
  rintro m ⟨t, hh, n⟩ ⟨x, rfl, hax, hsx, hn0, ⟨hs, hb, ho, e0⟩, e1, e4, eI, eJ⟩ hn1
  simp only at hn0 hb ho e0 e1 e4 eI eJ hn1
  subst hn0
  rw [Sort.scanUp] at hsx
  refine AWP.seq ?_
  by_cases hle : x ≤ (e - 1)
  ·have hle' : (x : Int) ≤ ((e - 1) : Nat) := by omega
   rw [← hs] at e0
   have la : x < d.size := by omega
   have lb : a < d.size := by omega
   have la' : ((x : Nat) : Int) < d.size := by omega
   have lb' : ((a : Nat) : Int) < d.size := by omega
   have hpa := celQ_get d T x la
   have hpb := celQ_get d T a lb
   have hb' : hh id = some ⟨ver, celQ d T⟩ := hb
   have hlL := celQ_len d T
   obtain ⟨vx, hvx⟩ : ∃ v, d[x]! = v := ⟨_, rfl⟩
   obtain ⟨vy, hvy⟩ : ∃ v, d[a]! = v := ⟨_, rfl⟩
   rw [hvx] at hpa
   rw [hvy] at hpb
   generalize celQ d T = L1 at hpa hpb hb' hlL
   refine AWP.seqRegDG [] [] [] mixed (drawF_ok (by kernel_rfl)) (by kernel_rfl) (fun K hK => ?_); simp -implicitDefEqProofs only [go_sem, ↓reduceIte, Nat.reduceEqDiff, Nat.reduceAdd, Nat.reduceLT, Nat.reduceLeDiff, reduceCtorEq, Int.toNat_natCast, e0, e1, e4, eI, eJ, hle', hb', hpa, hpb, la', lb']
   repeat (first | (refine Gdf 35 (jn5 @e0 @e1 @e4 @eI (jn7 @eJ @hle' @hb' @hpa @hpb @la' @lb')) ?_) | (refine ⟨by omega, ?_⟩))
   refine Ud (cm.calls vx vy _ _) cm.body ?_
   by_cases hz1 : z vx vy < 0
   ·repeat (first | (refine Gdf 35 @hz1 ?_) | (refine ⟨by omega, ?_⟩))
    rw [if_pos (by show (decide (x ≤ (e - 1)) && ltZ z d[x]! d[a]!) = true; rw [hvx, hvy]; simp [hle, hz1])] at hsx
    refine hK _ _ _ ?_; clear hK K
    refine Bt ?_
    refine AWP.skip ?_
    refine Ev ?_
    refine AWP.block ?_
    have w9 := w_add1 (a := x) (by omega)
    refine Raf (jn2 @eI @w9) (fun E K hE hK => ?_); refine hK _ _ _ ?_; clear hE hK K E
    exact ⟨(e - 1) + 1 - (x + 1), by omega, x + 1, rfl, by omega, hsx, PtAt.cut hid hT hlow _ rfl ⟨rfl, ⟨hs, hb, ho, by exact Ecf (jn2 @e0 @hs)⟩, by exact Ecf @e1, by exact Ecf @e4, by exact Er, by exact Ecf @eJ⟩⟩
   ·repeat (first | (refine Gdf 35 @hz1 ?_) | (refine ⟨by omega, ?_⟩))
    rw [if_neg (by show ¬ (decide (x ≤ (e - 1)) && ltZ z d[x]! d[a]!) = true; rw [hvx, hvy]; simp [hz1])] at hsx
    refine hK _ _ _ ?_; clear hK K
    refine Bf ?_
    refine AWP.exit ?_
    refine Ev ?_
    subst hsx
    exact ⟨rfl, ⟨hs, hb, ho, by exact Ecf (jn2 @e0 @hs)⟩, by exact Ecf @e1, by exact Ecf @e4, by exact Ecf @eI, by exact Ecf @eJ⟩
  ·have hle' : ¬ (x : Int) ≤ ((e - 1) : Nat) := by omega
   rw [if_neg (by simp [hle])] at hsx
   refine AWP.seqRegDG [] [] [] mixed (drawF_ok (by kernel_rfl)) (by kernel_rfl) (fun K hK => ?_); simp -implicitDefEqProofs only [go_sem, ↓reduceIte, Nat.reduceEqDiff, Nat.reduceAdd, Nat.reduceLT, Nat.reduceLeDiff, reduceCtorEq, Int.toNat_natCast, e0, e1, e4, eI, eJ, hle']
   repeat (first | (refine Gdf 35 @hle' ?_) | (refine ⟨by omega, ?_⟩))
   refine hK _ _ _ ?_; clear hK K
   refine Bf ?_
   refine AWP.exit ?_
   refine Ev ?_
   subst hsx
   exact ⟨rfl, ⟨hs, hb, ho, by exact Ecf @e0⟩, by exact Ecf @e1, by exact Ecf @e4, by exact Ecf @eI, by exact Ecf @eJ⟩
 clear hb ho e0 e1 e4 eI eJ hs
 rintro ⟨t, hh, n⟩ ⟨hn0, ⟨hs, hb, ho, e0⟩, e1, e4, eI, eJ⟩
 simp only at hn0 hb ho e0 e1 e4 eI eJ
 subst hn0
 have hge := Sort.scanUp_ge (fun x => ltZ z x d[a]!) d ((e - 1)) ((a + 1))
 obtain ⟨i2, hi2⟩ : ∃ i2, Sort.scanUp (fun x => ltZ z x d[a]!) d ((e - 1)) ((a + 1)) = i2 := ⟨_, rfl⟩
 rw [hi2] at eI hR hge
 clear hi2
 refine AWP.mid (PtAt h b id ver cap N T d a g 12 13 (i2) (Sort.scanDown (fun x => !ltZ z x d[a]!) d i2 (e - 1))) ?_ ?_
 ·refine AWP.block ?_
  obtain ⟨sx, hsx⟩ : ∃ sx, Sort.scanDown (fun x => !ltZ z x d[a]!) d i2 (e - 1) = sx := ⟨_, rfl⟩
  rw [hsx]
  refine AWP.loopM 0 (fun x st => x ≤ (e - 1) ∧ Sort.scanDown (fun x => !ltZ z x d[a]!) d i2 x = sx ∧ PtAt h b id ver cap N T d a g 12 13 (i2) (x) st) ((e - 1)) rfl ⟨Nat.le_refl _, hsx, ⟨rfl, ⟨hs, hb, ho, by exact Ecf @e0⟩, by exact Ecf @e1, by exact Ecf @e4, by exact Ecf @eI, by exact Ecf @eJ⟩⟩ ?_
  clear hsx hb ho e0 e1 e4 eI eJ hs
  rintro x ⟨t, hh, n⟩ ⟨hxj, hsx, hn0, ⟨hs, hb, ho, e0⟩, e1, e4, eI, eJ⟩ hn1
  simp only at hn0 hb ho e0 e1 e4 eI eJ hn1
  subst hn0
  refine AWP.seq ?_
  by_cases hle : i2 ≤ x
  ·have hle' : ((i2 : Nat) : Int) ≤ (x : Int) := by omega
   rw [← hs] at e0
   have hsx1 : (if (decide (i2 ≤ x) && (fun x => !ltZ z x d[a]!) d[x]!) = true then Sort.scanDown (fun x => !ltZ z x d[a]!) d i2 (x - 1) else x) = sx := by
    cases x with
    | zero => omega
    | succ y => exact hsx
   replace hsx := hsx1
   clear hsx1
   have la : x < d.size := by omega
   have lb : a < d.size := by omega
   have la' : ((x : Nat) : Int) < d.size := by omega
   have lb' : ((a : Nat) : Int) < d.size := by omega
   have hpa := celQ_get d T x la
   have hpb := celQ_get d T a lb
   have hb' : hh id = some ⟨ver, celQ d T⟩ := hb
   have hlL := celQ_len d T
   obtain ⟨vx, hvx⟩ : ∃ v, d[x]! = v := ⟨_, rfl⟩
   obtain ⟨vy, hvy⟩ : ∃ v, d[a]! = v := ⟨_, rfl⟩
   rw [hvx] at hpa
   rw [hvy] at hpb
   generalize celQ d T = L1 at hpa hpb hb' hlL
   refine AWP.seqRegDG [] [] [] mixed (drawF_ok (by kernel_rfl)) (by kernel_rfl) (fun K hK => ?_); simp -implicitDefEqProofs only [go_sem, ↓reduceIte, Nat.reduceEqDiff, Nat.reduceAdd, Nat.reduceLT, Nat.reduceLeDiff, reduceCtorEq, Int.toNat_natCast, e0, e1, e4, eI, eJ, hle', hb', hpa, hpb, la', lb']
   repeat (first | (refine Gdf 53 (jn5 @e0 @e1 @e4 @eI (jn7 @eJ @hle' @hb' @hpa @hpb @la' @lb')) ?_) | (refine ⟨by omega, ?_⟩))
   refine Ud (cm.calls vx vy _ _) cm.body ?_
   by_cases hz1 : z vx vy < 0
   ·repeat (first | (refine Gdf 53 @hz1 ?_) | (refine ⟨by omega, ?_⟩))
    rw [if_neg (by show ¬ (decide (i2 ≤ x) && !ltZ z d[x]! d[a]!) = true; rw [hvx, hvy]; simp [hz1])] at hsx
    refine hK _ _ _ ?_; clear hK K
    refine Bf ?_
    refine AWP.exit ?_
    refine Ev ?_
    subst hsx
    exact ⟨rfl, ⟨hs, hb, ho, by exact Ecf (jn2 @e0 @hs)⟩, by exact Ecf @e1, by exact Ecf @e4, by exact Ecf @eI, by exact Ecf @eJ⟩
   ·repeat (first | (refine Gdf 53 @hz1 ?_) | (refine ⟨by omega, ?_⟩))
    rw [if_pos (by show (decide (i2 ≤ x) && !ltZ z d[x]! d[a]!) = true; rw [hvx, hvy]; simp [hle, hz1])] at hsx
    refine hK _ _ _ ?_; clear hK K
    refine Bt ?_
    refine AWP.skip ?_
    refine Ev ?_
    refine AWP.block ?_
    have w9 := w_sub1 (a := x) (by omega) (by omega)
    refine Raf (jn2 @eJ @w9) (fun E K hE hK => ?_); refine hK _ _ _ ?_; clear hE hK K E
    exact ⟨x - 1, by omega, by omega, hsx, PtAt.cut hid hT hlow _ rfl ⟨rfl, ⟨hs, hb, ho, by exact Ecf (jn2 @e0 @hs)⟩, by exact Ecf @e1, by exact Ecf @e4, by exact Ecf @eI, by exact Er⟩⟩
  ·have hle' : ¬ ((i2 : Nat) : Int) ≤ (x : Int) := by omega
   have hsx1 : x = sx := by
    cases x with
    | zero => exact hsx
    | succ y => rw [Sort.scanDown, if_neg (by simp; omega)] at hsx; exact hsx
   replace hsx := hsx1
   clear hsx1
   refine AWP.seqRegDG [] [] [] mixed (drawF_ok (by kernel_rfl)) (by kernel_rfl) (fun K hK => ?_); simp -implicitDefEqProofs only [go_sem, ↓reduceIte, Nat.reduceEqDiff, Nat.reduceAdd, Nat.reduceLT, Nat.reduceLeDiff, reduceCtorEq, Int.toNat_natCast, e0, e1, e4, eI, eJ, hle']
   repeat (first | (refine Gdf 53 @hle' ?_) | (refine ⟨by omega, ?_⟩))
   refine hK _ _ _ ?_; clear hK K
   refine Bf ?_
   refine AWP.exit ?_
   refine Ev ?_
   subst hsx
   exact ⟨rfl, ⟨hs, hb, ho, by exact Ecf @e0⟩, by exact Ecf @e1, by exact Ecf @e4, by exact Ecf @eI, by exact Ecf @eJ⟩
 clear hb ho e0 e1 e4 eI eJ hs
 rintro ⟨t, hh, n⟩ ⟨hn0, ⟨hs, hb, ho, e0⟩, e1, e4, eI, eJ⟩
 simp only at hn0 hb ho e0 e1 e4 eI eJ
 subst hn0
 have hle := Sort.scanDown_le (fun x => !ltZ z x d[a]!) d i2 ((e - 1))
 obtain ⟨j2, hj2⟩ : ∃ j2, Sort.scanDown (fun x => !ltZ z x d[a]!) d i2 ((e - 1)) = j2 := ⟨_, rfl⟩
 rw [hj2] at eJ hR hle
 clear hj2
 refine AWP.seq ?_
 by_cases hgt : i2 > j2
 ·have hgt' : ((j2 : Nat) : Int) < (i2 : Int) := by omega
  rw [if_pos hgt] at hR
  refine Rkf (jn3 @eI @eJ @hgt') ?_
  refine Bt ?_
  rw [← hs] at e0
  have la : j2 < d.size := by omega
  have lb : a < d.size := by omega
  have la' : ((j2 : Nat) : Int) < d.size := by omega
  have lb' : ((a : Nat) : Int) < d.size := by omega
  have hpa := celQ_get d T j2 la
  have hpb := celQ_get d T a lb
  have hs1 := celQ_set d T j2 la d[a]!
  have hs2 := celQ_set (d.setIfInBounds j2 d[a]!) T a (by rw [Array.size_setIfInBounds]; exact lb) d[j2]!
  rw [show (d.setIfInBounds j2 d[a]!).setIfInBounds a d[j2]! = Sort.swp d j2 a from rfl] at hs2
  have hb' : hh id = some ⟨ver, celQ d T⟩ := hb
  have hlL := celQ_len d T
  have hlL2 := celQ_len (d.setIfInBounds j2 d[a]!) T
  rw [Array.size_setIfInBounds] at hlL2
  obtain ⟨vx, hvx⟩ : ∃ v, d[j2]! = v := ⟨_, rfl⟩
  obtain ⟨vy, hvy⟩ : ∃ v, d[a]! = v := ⟨_, rfl⟩
  rw [hvx] at hpa hs2
  rw [hvy] at hpb hs1 hs2 hlL2
  generalize celQ (d.setIfInBounds j2 vy) T = L2 at hs1 hs2 hlL2
  generalize celQ d T = L1 at hpa hpb hs1 hb' hlL
  refine AWP.seq ?_
  refine AWP.rgD [79, 83] [] [id] mixed (by kernel_rfl) (by kernel_rfl) (fun K hK => ?_) (by kernel_rfl); simp -implicitDefEqProofs only [go_sem, ↓reduceIte, Nat.reduceEqDiff, Nat.reduceAdd, Nat.reduceLT, Nat.reduceLeDiff, reduceCtorEq, Int.toNat_natCast, e0, e1, eI, eJ, hb', hpa, hpb, la', lb', hs1, hs2]
  repeat (first | (refine ⟨⟨by omega, by omega⟩, ?_⟩) | (refine ⟨by omega, ?_⟩) | (refine ⟨sub_ers _ _, ?_⟩) | (refine ⟨sub_at _ hb', ?_⟩))
  refine hK _ _ _ ?_; clear hK K
  refine Ev ?_
  refine Rkf @eJ ?_
  refine AWP.ret ?_
  refine Ev ?_
  subst hR
  exact RwAt.ends (C := ⟨_, b, ι, h, w, x0⟩) (d := Sort.swp d j2 a) hid hT hn H (by exact Er) (fun x hx hne => by refine Evf @hne ?_; exact ho x hx hne) (r := .tup [IntV j2, BoolV true]) (by rw [show Tryz.f166.results.toList = [.tmp 10, .tmp 11] from rfl]; exact Er) (frz_tup2 (.v _) (.v _)) ⟨rfl, rfl⟩
 have hgt' : ¬ ((j2 : Nat) : Int) < (i2 : Int) := by omega
 rw [if_neg hgt] at hR
 refine Rkf (jn3 @eI @eJ @hgt') ?_
 refine Bs ?_
 have w1 := w_add1 (a := i2) (by omega)
 have w2 := w_sub1 (a := j2) (by omega) (by omega)
 rw [← hs] at e0
 have la : i2 < d.size := by omega
 have lb : j2 < d.size := by omega
 have la' : ((i2 : Nat) : Int) < d.size := by omega
 have lb' : ((j2 : Nat) : Int) < d.size := by omega
 have hpa := celQ_get d T i2 la
 have hpb := celQ_get d T j2 lb
 have hs1 := celQ_set d T i2 la d[j2]!
 have hs2 := celQ_set (d.setIfInBounds i2 d[j2]!) T j2 (by rw [Array.size_setIfInBounds]; exact lb) d[i2]!
 rw [show (d.setIfInBounds i2 d[j2]!).setIfInBounds j2 d[i2]! = Sort.swp d i2 j2 from rfl] at hs2
 have hb' : hh id = some ⟨ver, celQ d T⟩ := hb
 have hlL := celQ_len d T
 have hlL2 := celQ_len (d.setIfInBounds i2 d[j2]!) T
 rw [Array.size_setIfInBounds] at hlL2
 obtain ⟨vx, hvx⟩ : ∃ v, d[i2]! = v := ⟨_, rfl⟩
 obtain ⟨vy, hvy⟩ : ∃ v, d[j2]! = v := ⟨_, rfl⟩
 rw [hvx] at hpa hs2
 rw [hvy] at hpb hs1 hs2 hlL2
 generalize celQ (d.setIfInBounds i2 vy) T = L2 at hs1 hs2 hlL2
 generalize celQ d T = L1 at hpa hpb hs1 hb' hlL
 refine AWP.seq ?_
 refine AWP.rgD [94, 98] [] [id] mixed (by kernel_rfl) (by kernel_rfl) (fun K hK => ?_) (by kernel_rfl); simp -implicitDefEqProofs only [go_sem, ↓reduceIte, Nat.reduceEqDiff, Nat.reduceAdd, Nat.reduceLT, Nat.reduceLeDiff, reduceCtorEq, Int.toNat_natCast, e0, eI, eJ, hb', hpa, hpb, la', lb', hs1, hs2]
 repeat (first | (refine ⟨⟨by omega, by omega⟩, ?_⟩) | (refine ⟨by omega, ?_⟩) | (refine ⟨sub_ers _ _, ?_⟩) | (refine ⟨sub_at _ hb', ?_⟩))
 refine hK _ _ _ ?_; clear hK K
 refine Ev ?_
 refine Rkf (jn2 @eI @w1) ?_
 refine Rkf (jn2 @eJ @w2) ?_
 obtain ⟨rl, hrl⟩ : ∃ rl, Sort.partLoop (ltZ z) a (i2 + 1) (j2 - 1) (Sort.swp d i2 j2) = rl := ⟨_, rfl⟩
 have hsr := part_size (ltZ z) a (j2 - 1 + 1 - (i2 + 1)) (i2 + 1) (j2 - 1) (Sort.swp d i2 j2) (Nat.le_refl _)
 rw [hrl, swp_size, hs] at hsr
 rw [hrl] at hR
 refine AWP.mid (fun st => PtAt h b id ver cap N T rl.2 a g 12 13 0 rl.1 ⟨fun x => if x = 12 then IntV (0 : Nat) else st.t x, st.h, st.n⟩ ∧ rl.1 < e) ?_ ?_
 ·refine AWP.block ?_
  refine AWP.loopM 0 (fun m st => ∃ i j d, m = j + 1 - i ∧ a < i ∧ j < e ∧ Sort.partLoop (ltZ z) a i j d = rl ∧ PtAt h b id ver cap N T d a g 12 13 i j st) (j2 - 1 + 1 - (i2 + 1)) rfl ⟨i2 + 1, j2 - 1, _, rfl, by omega, by omega, hrl, ⟨rfl, ⟨by rw [swp_size, hs], by exact Er, fun x hx hne => by refine Evf @hne ?_; exact ho x hx hne, by exact Ecf (jn2 @e0 @hs)⟩, by exact Ecf @e1, by exact Ecf @e4, by exact Er, by exact Er⟩⟩ ?_
  clear hR hrl hb ho hb' hpa hpb hs1 hs2 hlL hlL2 hvx hvy la lb la' lb' w1 w2 hs e0 e1 e4 eI eJ hgt hgt' hge hle hsr
  rintro m ⟨t, hh, n⟩ ⟨i, j, d, rfl, hai, hje, hR, hn0, ⟨hs, hb, ho, e0⟩, e1, e4, eI, eJ⟩ hn1
  simp only at hn0 hb ho e0 e1 e4 eI eJ hn1
  subst hn0
  rw [Sort.partLoop_eq] at hR
  refine AWP.block ?_
  refine AWP.mid (PtAt h b id ver cap N T d a g 12 13 (Sort.scanUp (fun x => ltZ z x d[a]!) d j i) (j)) ?_ ?_
  ·refine AWP.block ?_
   obtain ⟨sx, hsx⟩ : ∃ sx, Sort.scanUp (fun x => ltZ z x d[a]!) d j i = sx := ⟨_, rfl⟩
   rw [hsx]
   refine AWP.loopM 0 (fun m st => ∃ x, m = j + 1 - x ∧ a < x ∧ Sort.scanUp (fun x => ltZ z x d[a]!) d j x = sx ∧ PtAt h b id ver cap N T d a g 12 13 (x) (j) st) (j + 1 - i) rfl ⟨i, rfl, by omega, hsx, ⟨rfl, ⟨hs, hb, ho, by exact Ecf @e0⟩, by exact Ecf @e1, by exact Ecf @e4, by exact Ecf @eI, by exact Ecf @eJ⟩⟩ ?_
   clear hsx hb ho e0 e1 e4 eI eJ hs
   rintro m ⟨t, hh, n⟩ ⟨x, rfl, hax, hsx, hn0, ⟨hs, hb, ho, e0⟩, e1, e4, eI, eJ⟩ hn1
   simp only at hn0 hb ho e0 e1 e4 eI eJ hn1
   subst hn0
   rw [Sort.scanUp] at hsx
   refine AWP.seq ?_
   by_cases hle : x ≤ j
   ·have hle' : (x : Int) ≤ (j : Nat) := by omega
    rw [← hs] at e0
    have la : x < d.size := by omega
    have lb : a < d.size := by omega
    have la' : ((x : Nat) : Int) < d.size := by omega
    have lb' : ((a : Nat) : Int) < d.size := by omega
    have hpa := celQ_get d T x la
    have hpb := celQ_get d T a lb
    have hb' : hh id = some ⟨ver, celQ d T⟩ := hb
    have hlL := celQ_len d T
    obtain ⟨vx, hvx⟩ : ∃ v, d[x]! = v := ⟨_, rfl⟩
    obtain ⟨vy, hvy⟩ : ∃ v, d[a]! = v := ⟨_, rfl⟩
    rw [hvx] at hpa
    rw [hvy] at hpb
    generalize celQ d T = L1 at hpa hpb hb' hlL
    refine AWP.seqRegDG [] [] [] mixed (drawF_ok (by kernel_rfl)) (by kernel_rfl) (fun K hK => ?_); simp -implicitDefEqProofs only [go_sem, ↓reduceIte, Nat.reduceEqDiff, Nat.reduceAdd, Nat.reduceLT, Nat.reduceLeDiff, reduceCtorEq, Int.toNat_natCast, e0, e1, e4, eI, eJ, hle', hb', hpa, hpb, la', lb']
    repeat (first | (refine Gdf 108 (jn5 @e0 @e1 @e4 @eI (jn7 @eJ @hle' @hb' @hpa @hpb @la' @lb')) ?_) | (refine ⟨by omega, ?_⟩))
    refine Ud (cm.calls vx vy _ _) cm.body ?_
    by_cases hz1 : z vx vy < 0
    ·repeat (first | (refine Gdf 108 @hz1 ?_) | (refine ⟨by omega, ?_⟩))
     rw [if_pos (by show (decide (x ≤ j) && ltZ z d[x]! d[a]!) = true; rw [hvx, hvy]; simp [hle, hz1])] at hsx
     refine hK _ _ _ ?_; clear hK K
     refine Bt ?_
     refine AWP.skip ?_
     refine Ev ?_
     refine AWP.block ?_
     have w9 := w_add1 (a := x) (by omega)
     refine Raf (jn2 @eI @w9) (fun E K hE hK => ?_); refine hK _ _ _ ?_; clear hE hK K E
     exact ⟨j + 1 - (x + 1), by omega, x + 1, rfl, by omega, hsx, PtAt.cut hid hT hlow _ rfl ⟨rfl, ⟨hs, hb, ho, by exact Ecf (jn2 @e0 @hs)⟩, by exact Ecf @e1, by exact Ecf @e4, by exact Er, by exact Ecf @eJ⟩⟩
    ·repeat (first | (refine Gdf 108 @hz1 ?_) | (refine ⟨by omega, ?_⟩))
     rw [if_neg (by show ¬ (decide (x ≤ j) && ltZ z d[x]! d[a]!) = true; rw [hvx, hvy]; simp [hz1])] at hsx
     refine hK _ _ _ ?_; clear hK K
     refine Bf ?_
     refine AWP.exit ?_
     refine Ev ?_
     subst hsx
     exact ⟨rfl, ⟨hs, hb, ho, by exact Ecf (jn2 @e0 @hs)⟩, by exact Ecf @e1, by exact Ecf @e4, by exact Ecf @eI, by exact Ecf @eJ⟩
   ·have hle' : ¬ (x : Int) ≤ (j : Nat) := by omega
    rw [if_neg (by simp [hle])] at hsx
    refine AWP.seqRegDG [] [] [] mixed (drawF_ok (by kernel_rfl)) (by kernel_rfl) (fun K hK => ?_); simp -implicitDefEqProofs only [go_sem, ↓reduceIte, Nat.reduceEqDiff, Nat.reduceAdd, Nat.reduceLT, Nat.reduceLeDiff, reduceCtorEq, Int.toNat_natCast, e0, e1, e4, eI, eJ, hle']
    repeat (first | (refine Gdf 108 @hle' ?_) | (refine ⟨by omega, ?_⟩))
    refine hK _ _ _ ?_; clear hK K
    refine Bf ?_
    refine AWP.exit ?_
    refine Ev ?_
    subst hsx
    exact ⟨rfl, ⟨hs, hb, ho, by exact Ecf @e0⟩, by exact Ecf @e1, by exact Ecf @e4, by exact Ecf @eI, by exact Ecf @eJ⟩
  clear hb ho e0 e1 e4 eI eJ hs
  rintro ⟨t, hh, n⟩ ⟨hn0, ⟨hs, hb, ho, e0⟩, e1, e4, eI, eJ⟩
  simp only at hn0 hb ho e0 e1 e4 eI eJ
  subst hn0
  have hge := Sort.scanUp_ge (fun x => ltZ z x d[a]!) d (j) (i)
  obtain ⟨i2, hi2⟩ : ∃ i2, Sort.scanUp (fun x => ltZ z x d[a]!) d (j) (i) = i2 := ⟨_, rfl⟩
  rw [hi2] at eI hR hge
  clear hi2
  refine AWP.mid (PtAt h b id ver cap N T d a g 12 13 (i2) (Sort.scanDown (fun x => !ltZ z x d[a]!) d i2 j)) ?_ ?_
  ·refine AWP.block ?_
   obtain ⟨sx, hsx⟩ : ∃ sx, Sort.scanDown (fun x => !ltZ z x d[a]!) d i2 j = sx := ⟨_, rfl⟩
   rw [hsx]
   refine AWP.loopM 0 (fun x st => x ≤ j ∧ Sort.scanDown (fun x => !ltZ z x d[a]!) d i2 x = sx ∧ PtAt h b id ver cap N T d a g 12 13 (i2) (x) st) (j) rfl ⟨Nat.le_refl _, hsx, ⟨rfl, ⟨hs, hb, ho, by exact Ecf @e0⟩, by exact Ecf @e1, by exact Ecf @e4, by exact Ecf @eI, by exact Ecf @eJ⟩⟩ ?_
   clear hsx hb ho e0 e1 e4 eI eJ hs
   rintro x ⟨t, hh, n⟩ ⟨hxj, hsx, hn0, ⟨hs, hb, ho, e0⟩, e1, e4, eI, eJ⟩ hn1
   simp only at hn0 hb ho e0 e1 e4 eI eJ hn1
   subst hn0
   refine AWP.seq ?_
   by_cases hle : i2 ≤ x
   ·have hle' : ((i2 : Nat) : Int) ≤ (x : Int) := by omega
    rw [← hs] at e0
    have hsx1 : (if (decide (i2 ≤ x) && (fun x => !ltZ z x d[a]!) d[x]!) = true then Sort.scanDown (fun x => !ltZ z x d[a]!) d i2 (x - 1) else x) = sx := by
     cases x with
     | zero => omega
     | succ y => exact hsx
    replace hsx := hsx1
    clear hsx1
    have la : x < d.size := by omega
    have lb : a < d.size := by omega
    have la' : ((x : Nat) : Int) < d.size := by omega
    have lb' : ((a : Nat) : Int) < d.size := by omega
    have hpa := celQ_get d T x la
    have hpb := celQ_get d T a lb
    have hb' : hh id = some ⟨ver, celQ d T⟩ := hb
    have hlL := celQ_len d T
    obtain ⟨vx, hvx⟩ : ∃ v, d[x]! = v := ⟨_, rfl⟩
    obtain ⟨vy, hvy⟩ : ∃ v, d[a]! = v := ⟨_, rfl⟩
    rw [hvx] at hpa
    rw [hvy] at hpb
    generalize celQ d T = L1 at hpa hpb hb' hlL
    refine AWP.seqRegDG [] [] [] mixed (drawF_ok (by kernel_rfl)) (by kernel_rfl) (fun K hK => ?_); simp -implicitDefEqProofs only [go_sem, ↓reduceIte, Nat.reduceEqDiff, Nat.reduceAdd, Nat.reduceLT, Nat.reduceLeDiff, reduceCtorEq, Int.toNat_natCast, e0, e1, e4, eI, eJ, hle', hb', hpa, hpb, la', lb']
    repeat (first | (refine Gdf 126 (jn5 @e0 @e1 @e4 @eI (jn7 @eJ @hle' @hb' @hpa @hpb @la' @lb')) ?_) | (refine ⟨by omega, ?_⟩))
    refine Ud (cm.calls vx vy _ _) cm.body ?_
    by_cases hz1 : z vx vy < 0
    ·repeat (first | (refine Gdf 126 @hz1 ?_) | (refine ⟨by omega, ?_⟩))
     rw [if_neg (by show ¬ (decide (i2 ≤ x) && !ltZ z d[x]! d[a]!) = true; rw [hvx, hvy]; simp [hz1])] at hsx
     refine hK _ _ _ ?_; clear hK K
     refine Bf ?_
     refine AWP.exit ?_
     refine Ev ?_
     subst hsx
     exact ⟨rfl, ⟨hs, hb, ho, by exact Ecf (jn2 @e0 @hs)⟩, by exact Ecf @e1, by exact Ecf @e4, by exact Ecf @eI, by exact Ecf @eJ⟩
    ·repeat (first | (refine Gdf 126 @hz1 ?_) | (refine ⟨by omega, ?_⟩))
     rw [if_pos (by show (decide (i2 ≤ x) && !ltZ z d[x]! d[a]!) = true; rw [hvx, hvy]; simp [hle, hz1])] at hsx
     refine hK _ _ _ ?_; clear hK K
     refine Bt ?_
     refine AWP.skip ?_
     refine Ev ?_
     refine AWP.block ?_
     have w9 := w_sub1 (a := x) (by omega) (by omega)
     refine Raf (jn2 @eJ @w9) (fun E K hE hK => ?_); refine hK _ _ _ ?_; clear hE hK K E
     exact ⟨x - 1, by omega, by omega, hsx, PtAt.cut hid hT hlow _ rfl ⟨rfl, ⟨hs, hb, ho, by exact Ecf (jn2 @e0 @hs)⟩, by exact Ecf @e1, by exact Ecf @e4, by exact Ecf @eI, by exact Er⟩⟩
   ·have hle' : ¬ ((i2 : Nat) : Int) ≤ (x : Int) := by omega
    have hsx1 : x = sx := by
     cases x with
     | zero => exact hsx
     | succ y => rw [Sort.scanDown, if_neg (by simp; omega)] at hsx; exact hsx
    replace hsx := hsx1
    clear hsx1
    refine AWP.seqRegDG [] [] [] mixed (drawF_ok (by kernel_rfl)) (by kernel_rfl) (fun K hK => ?_); simp -implicitDefEqProofs only [go_sem, ↓reduceIte, Nat.reduceEqDiff, Nat.reduceAdd, Nat.reduceLT, Nat.reduceLeDiff, reduceCtorEq, Int.toNat_natCast, e0, e1, e4, eI, eJ, hle']
    repeat (first | (refine Gdf 126 @hle' ?_) | (refine ⟨by omega, ?_⟩))
    refine hK _ _ _ ?_; clear hK K
    refine Bf ?_
    refine AWP.exit ?_
    refine Ev ?_
    subst hsx
    exact ⟨rfl, ⟨hs, hb, ho, by exact Ecf @e0⟩, by exact Ecf @e1, by exact Ecf @e4, by exact Ecf @eI, by exact Ecf @eJ⟩
  clear hb ho e0 e1 e4 eI eJ hs
  rintro ⟨t, hh, n⟩ ⟨hn0, ⟨hs, hb, ho, e0⟩, e1, e4, eI, eJ⟩
  simp only at hn0 hb ho e0 e1 e4 eI eJ
  subst hn0
  have hle := Sort.scanDown_le (fun x => !ltZ z x d[a]!) d i2 (j)
  obtain ⟨j2, hj2⟩ : ∃ j2, Sort.scanDown (fun x => !ltZ z x d[a]!) d i2 (j) = j2 := ⟨_, rfl⟩
  rw [hj2] at eJ hR hle
  clear hj2
  refine AWP.seq ?_
  by_cases hgt : i2 > j2
  ·have hgt' : ((j2 : Nat) : Int) < (i2 : Int) := by omega
   rw [if_pos hgt] at hR
   refine Rkf (jn3 @eI @eJ @hgt') ?_
   refine Bt ?_
   refine AWP.exit ?_
   refine Ev ?_
   subst hR
   exact ⟨⟨rfl, ⟨hs, hb, ho, by exact Ecf @e0⟩, by exact Ecf @e1, by exact Ecf @e4, by exact Er, by exact Ecf @eJ⟩, by omega⟩
  ·have hgt' : ¬ ((j2 : Nat) : Int) < (i2 : Int) := by omega
   rw [if_neg hgt] at hR
   refine Rkf (jn3 @eI @eJ @hgt') ?_
   refine Bs ?_
   have w1 := w_add1 (a := i2) (by omega)
   have w2 := w_sub1 (a := j2) (by omega) (by omega)
   rw [← hs] at e0
   have la : i2 < d.size := by omega
   have lb : j2 < d.size := by omega
   have la' : ((i2 : Nat) : Int) < d.size := by omega
   have lb' : ((j2 : Nat) : Int) < d.size := by omega
   have hpa := celQ_get d T i2 la
   have hpb := celQ_get d T j2 lb
   have hs1 := celQ_set d T i2 la d[j2]!
   have hs2 := celQ_set (d.setIfInBounds i2 d[j2]!) T j2 (by rw [Array.size_setIfInBounds]; exact lb) d[i2]!
   rw [show (d.setIfInBounds i2 d[j2]!).setIfInBounds j2 d[i2]! = Sort.swp d i2 j2 from rfl] at hs2
   have hb' : hh id = some ⟨ver, celQ d T⟩ := hb
   have hlL := celQ_len d T
   have hlL2 := celQ_len (d.setIfInBounds i2 d[j2]!) T
   rw [Array.size_setIfInBounds] at hlL2
   obtain ⟨vx, hvx⟩ : ∃ v, d[i2]! = v := ⟨_, rfl⟩
   obtain ⟨vy, hvy⟩ : ∃ v, d[j2]! = v := ⟨_, rfl⟩
   rw [hvx] at hpa hs2
   rw [hvy] at hpb hs1 hs2 hlL2
   generalize celQ (d.setIfInBounds i2 vy) T = L2 at hs1 hs2 hlL2
   generalize celQ d T = L1 at hpa hpb hs1 hb' hlL
   refine AWP.seq ?_
   refine AWP.rgD [152, 156] [] [id] mixed (by kernel_rfl) (by kernel_rfl) (fun K hK => ?_) (by kernel_rfl); simp -implicitDefEqProofs only [go_sem, ↓reduceIte, Nat.reduceEqDiff, Nat.reduceAdd, Nat.reduceLT, Nat.reduceLeDiff, reduceCtorEq, Int.toNat_natCast, e0, eI, eJ, hb', hpa, hpb, la', lb', hs1, hs2]
   repeat (first | (refine ⟨⟨by omega, by omega⟩, ?_⟩) | (refine ⟨by omega, ?_⟩) | (refine ⟨sub_ers _ _, ?_⟩) | (refine ⟨sub_at _ hb', ?_⟩))
   refine hK _ _ _ ?_; clear hK K
   refine Ev ?_
   refine Rkf (jn2 @eI @w1) ?_
   refine Raf (jn2 @eJ @w2) (fun E K hE hK => ?_); refine hK _ _ _ ?_; clear hE hK K E
   refine ⟨j2 - 1 + 1 - (i2 + 1), by omega, i2 + 1, j2 - 1, _, rfl, by omega, by omega, hR, PtAt.cut hid hT hlow _ rfl ⟨rfl, ⟨by rw [swp_size, hs], by exact Er, fun x hx hne => by refine Evf @hne ?_; exact ho x hx hne, by exact Ecf (jn2 @e0 @hs)⟩, by exact Ecf @e1, by exact Ecf @e4, by exact Er, by exact Er⟩⟩
 clear hb ho hb' hpa hpb hs1 hs2 hlL hlL2 hvx hvy la lb la' lb' w1 w2 hs e0 e1 e4 eI eJ hrl
 rintro ⟨t, hh, n⟩ ⟨⟨hn0, ⟨hs, hb, ho, e0⟩, e1, e4, _, eJ⟩, hrj⟩
 simp only [Nat.reduceEqDiff, if_false] at hn0 hb ho e0 e1 e4 eJ
 subst hn0
 obtain ⟨jr, dr⟩ := rl
 simp only at hs hb hR hsr eJ hrj
 rw [← hs] at e0
 have la : jr < dr.size := by omega
 have lb : a < dr.size := by omega
 have la' : ((jr : Nat) : Int) < dr.size := by omega
 have lb' : ((a : Nat) : Int) < dr.size := by omega
 have hpa := celQ_get dr T jr la
 have hpb := celQ_get dr T a lb
 have hs1 := celQ_set dr T jr la dr[a]!
 have hs2 := celQ_set (dr.setIfInBounds jr dr[a]!) T a (by rw [Array.size_setIfInBounds]; exact lb) dr[jr]!
 rw [show (dr.setIfInBounds jr dr[a]!).setIfInBounds a dr[jr]! = Sort.swp dr jr a from rfl] at hs2
 have hb' : hh id = some ⟨ver, celQ dr T⟩ := hb
 have hlL := celQ_len dr T
 have hlL2 := celQ_len (dr.setIfInBounds jr dr[a]!) T
 rw [Array.size_setIfInBounds] at hlL2
 obtain ⟨vx, hvx⟩ : ∃ v, dr[jr]! = v := ⟨_, rfl⟩
 obtain ⟨vy, hvy⟩ : ∃ v, dr[a]! = v := ⟨_, rfl⟩
 rw [hvx] at hpa hs2
 rw [hvy] at hpb hs1 hs2 hlL2
 generalize celQ (dr.setIfInBounds jr vy) T = L2 at hs1 hs2 hlL2
 generalize celQ dr T = L1 at hpa hpb hs1 hb' hlL
 refine AWP.seq ?_
 refine AWP.rgD [170, 174] [] [id] mixed (by kernel_rfl) (by kernel_rfl) (fun K hK => ?_) (by kernel_rfl); simp -implicitDefEqProofs only [go_sem, ↓reduceIte, Nat.reduceEqDiff, Nat.reduceAdd, Nat.reduceLT, Nat.reduceLeDiff, reduceCtorEq, Int.toNat_natCast, e0, e1, eJ, hb', hpa, hpb, la', lb', hs1, hs2]
 repeat (first | (refine ⟨⟨by omega, by omega⟩, ?_⟩) | (refine ⟨by omega, ?_⟩) | (refine ⟨sub_ers _ _, ?_⟩) | (refine ⟨sub_at _ hb', ?_⟩))
 refine hK _ _ _ ?_; clear hK K
 refine Ev ?_
 refine Rkf @eJ ?_
 refine AWP.ret ?_
 refine Ev ?_
 subst hR
 exact RwAt.ends (C := ⟨_, b, ι, h, w, x0⟩) (d := Sort.swp dr jr a) hid hT hn H (by exact Er) (fun x hx hne => by refine Evf @hne ?_; exact ho x hx hne) (r := .tup [IntV jr, BoolV false]) (by rw [show Tryz.f166.results.toList = [.tmp 10, .tmp 11] from rfl]; exact Er) (frz_tup2 (.v _) (.v _)) ⟨rfl, rfl⟩
structure PiAt (h : Heap) (b id ver cap N : Nat) (T : List Cell) (d : Array El) (a e : Nat) (g : FuncId) (i q : Nat) (st : St) : Prop where
 n : st.n = 0
 row : RwAt h b id ver cap N T d st
 a : st.t 1 = IntV a
 e : st.t 2 = IntV e
 g : st.t 3 = cloV g
 i : st.t 9 = IntV i
 q : st.t 10 = IntV q
theorem PiAt.cut {h : Heap} {b id ver cap N : Nat} {T : List Cell} {d : Array El} {a e : Nat} {g : FuncId} {i q : Nat} {st : St} (hid : id < b) (hT : lowCs 0 T = true) (hlow : ∀ id blk, h id = some blk → ∀ c ∈ blk.cells, lowC b c = true) (C : Ctx) (hC : C.b = b)
  (k : PiAt h b id ver cap N T d a e g i q st) : PiAt h b id ver cap N T d a e g i q (st.cut C 0) := by
 obtain ⟨t, hh, n⟩ := st
 obtain ⟨_, ⟨h1, h2, h3, h4⟩, h5, h6, h7, h8, h9⟩ := k
 simp only at h2 h3 h4 h5 h6 h7 h8 h9
 refine ⟨rfl, RwAt.cut hid hT hlow C hC h1 h2 h3 h4, ?_, ?_, ?_, ?_, ?_⟩
 ·show cutV _ (t 1) = _; rw [h5]; rfl
 ·show cutV _ (t 2) = _; rw [h6]; rfl
 ·show cutV _ (t 3) = _; rw [h7]; rfl
 ·show cutV _ (t 9) = _; rw [h8]; rfl
 ·show cutV _ (t 10) = _; rw [h9]; rfl
def pinD (lt : El → El → Bool) (a e i : Nat) (d : Array El) : Array El := if i - a ≥ 2 then Sort.shiftDown lt (i - 1) d else d
def pinU (lt : El → El → Bool) (e i : Nat) (d : Array El) : Array El := if e - i ≥ 2 then Sort.shiftUp lt e (i + 1) d else d
theorem pIns_succ (lt : El → El → Bool) (a e s i : Nat) (d : Array El) : Sort.partialIns lt a e (s + 1) i d = if Sort.scanSorted lt d e i = e then (d, true) else if e - a < 50 then (d, false) else
  Sort.partialIns lt a e s (Sort.scanSorted lt d e i) (pinU lt e (Sort.scanSorted lt d e i) (pinD lt a e (Sort.scanSorted lt d e i) (Sort.swp d (Sort.scanSorted lt d e i) (Sort.scanSorted lt d e i - 1)))) := rfl
theorem partialIns_ok {g : FuncId} {z : El → El → Int} (cm : CmpQ g z) {h : Heap} {b id ver cap : Nat} {d0 : Array El} {T : List Cell} (k : PdAt h id ver d0 T) (hid : id < b) (a e : Nat) (hae : a < e) (he : e ≤ d0.size) :
  ACalls Tryz.prog 164 [winQ id ver cap d0.size, IntV a, IntV e, cloV g] h b 0
   (fun r h' => r = BoolV (Sort.partialInsertionSort (ltZ z) d0 a e).2 ∧ h' = upd h id (rowQ ver (Sort.partialInsertionSort (ltZ z) d0 a e).1 T)) := by
 refine ACalls.enter Tryz.func164 rfl (by simp [Tryz.ntmps164]) (fun ι w hn H => ?_)
 have hlow := H.lowCells
 have hz := k.size
 obtain ⟨N, hN⟩ : ∃ N, d0.size = N := ⟨_, rfl⟩
 have hrow := k.row
 have hT := k.low
 rw [hN] at hz he ⊢
 unfold Sort.partialInsertionSort
 obtain ⟨R, hR⟩ : ∃ R, Sort.partialIns (ltZ z) a e 5 (a + 1) d0 = R := ⟨_, rfl⟩
 rw [hR]
 have fin : ∀ (t : Nat → AV) (hh : Heap) (d : Array El) (v : Bool), R = (d, v) → t 8 = BoolV v → hh id = some (rowQ ver d T) → (∀ x, x < b → x ≠ id → hh x = h x) →
   Am.Ends Tryz.prog ⟨Tryz.f164.ntmps, b, ι, h, w, x0⟩ Tryz.f164 0 (fun r h' => r = BoolV R.2 ∧ h' = upd h id (rowQ ver R.1 T)) ⟨t, hh, 0⟩ := by
  intro t hh d v h1 h2 h3 h4
  subst h1
  exact RwAt.ends (C := ⟨_, b, ι, h, w, x0⟩) hid hT hn H h3 h4 (r := BoolV v) (by rw [show Tryz.f164.results.toList = [.tmp 8] from rfl]; exact Ecf @h2) (.v _) ⟨rfl, rfl⟩
 have w1 := w_add1 (a := a) (by omega)
 refine Rk ?_
 refine Rkf @w1 ?_
 refine AWP.seq ?_
 refine Rk ?_
 refine AWP.block ?_
 refine AWP.loopM 0 (fun m st => ∃ q i d, m = 5 - q ∧ q ≤ 5 ∧ a < i ∧ i ≤ e ∧ Sort.partialIns (ltZ z) a e (5 - q) i d = R ∧ PiAt h b id ver cap N T d a e g i q st) 5 rfl ⟨0, a + 1, d0, rfl, by omega, by omega, by omega, hR, ⟨rfl, ⟨hN, hrow, fun _ _ _ => rfl, by exact Er⟩, by exact Er, by exact Er, by exact Er, by exact Er, by exact Er⟩⟩ ?_
 clear hR w1 hrow hN k
 rintro m ⟨t, hh, n⟩ ⟨q, i, d, rfl, hq, hai, hie, hR, hn0, ⟨hs, hb, ho, e0⟩, e1, e2, e3, e9, e10⟩ hn1
 simp only at hn0 hb ho e0 e1 e2 e3 e9 e10 hn1
 subst hn0
 refine AWP.seq ?_
 by_cases hq5 : q < 5
 ·have hq5' : (q : Int) < 5 := by omega
  obtain ⟨s, hs5⟩ : ∃ s, 5 - q = s + 1 := ⟨4 - q, by omega⟩
  rw [hs5, pIns_succ] at hR
  refine Rkf (jn2 @e10 @hq5') ?_
  refine Bt ?_
  refine AWP.skip ?_
  refine Ev ?_
  obtain ⟨i2, hi2⟩ : ∃ i2, Sort.scanSorted (ltZ z) d e i = i2 := ⟨_, rfl⟩
  rw [hi2] at hR
  refine AWP.mid (fun st => i2 ≠ e ∧ a < i2 ∧ i2 < e ∧ ¬ e - a < 50 ∧ PiAt h b id ver cap N T (pinU (ltZ z) e i2 (pinD (ltZ z) a e i2 (Sort.swp d i2 (i2 - 1)))) a e g i2 q st) ?_ ?_
  ·refine AWP.block ?_
   refine AWP.mid (fun st => a < i2 ∧ i2 ≤ e ∧ PiAt h b id ver cap N T d a e g i2 q st) ?_ ?_
   ·refine AWP.block ?_
    refine AWP.loopM 0 (fun m st => ∃ x, m = e - x ∧ a < x ∧ x ≤ e ∧ Sort.scanSorted (ltZ z) d e x = i2 ∧ PiAt h b id ver cap N T d a e g x q st) (e - i) rfl ⟨i, rfl, hai, hie, hi2, ⟨rfl, ⟨hs, hb, ho, by exact Ecf @e0⟩, by exact Ecf @e1, by exact Ecf @e2, by exact Ecf @e3, by exact Ecf @e9, by exact Ecf @e10⟩⟩ ?_
    clear hi2 hb ho e0 e1 e2 e3 e9 e10 hs
    rintro m ⟨t, hh, n⟩ ⟨x, rfl, hax, hxe, hi2, hn0, ⟨hs, hb, ho, e0⟩, e1, e2, e3, e9, e10⟩ hn1
    simp only at hn0 hb ho e0 e1 e2 e3 e9 e10 hn1
    subst hn0
    rw [Sort.scanSorted] at hi2
    refine AWP.seq ?_
    by_cases hlt : x < e
    ·have hlt' : (x : Int) < (e : Nat) := by omega
     have w3 := w_sub1 (a := x) (by omega) (by omega)
     rw [← hs] at e0
     have la : x < d.size := by omega
     have lb : (x - 1) < d.size := by omega
     have la' : ((x : Nat) : Int) < d.size := by omega
     have lb' : (((x - 1) : Nat) : Int) < d.size := by omega
     have hpa := celQ_get d T x la
     have hpb := celQ_get d T (x - 1) lb
     have hb' : hh id = some ⟨ver, celQ d T⟩ := hb
     have hlL := celQ_len d T
     obtain ⟨vx, hvx⟩ : ∃ v, d[x]! = v := ⟨_, rfl⟩
     obtain ⟨vy, hvy⟩ : ∃ v, d[(x - 1)]! = v := ⟨_, rfl⟩
     rw [hvx] at hpa
     rw [hvy] at hpb
     generalize celQ d T = L1 at hpa hpb hb' hlL
     refine AWP.seqRegDG [] [] [] mixed (drawF_ok (by kernel_rfl)) (by kernel_rfl) (fun K hK => ?_); simp -implicitDefEqProofs only [go_sem, ↓reduceIte, Nat.reduceEqDiff, Nat.reduceAdd, Nat.reduceLT, Nat.reduceLeDiff, reduceCtorEq, Int.toNat_natCast, e0, e2, e3, e9, hlt', w3, hb', hpa, hpb, la', lb']
     repeat (first | (refine Gdf 22 (jn5 @e0 @e2 @e3 @e9 (jn7 @hlt' @w3 @hb' @hpa @hpb @la' @lb')) ?_) | (refine ⟨by omega, ?_⟩))
     refine Ud (cm.calls vx vy _ _) cm.body ?_
     by_cases hz1 : z vx vy < 0
     ·repeat (first | (refine Gdf 22 @hz1 ?_) | (refine ⟨by omega, ?_⟩))
      rw [if_neg (by rw [hvx, hvy]; simp [hz1])] at hi2
      refine hK _ _ _ ?_; clear hK K
      refine Bf ?_
      refine AWP.exit ?_
      refine Ev ?_
      subst hi2
      exact ⟨hax, by omega, ⟨rfl, ⟨hs, hb, ho, by exact Ecf (jn2 @e0 @hs)⟩, by exact Ecf @e1, by exact Ecf @e2, by exact Ecf @e3, by exact Ecf @e9, by exact Ecf @e10⟩⟩
     ·repeat (first | (refine Gdf 22 @hz1 ?_) | (refine ⟨by omega, ?_⟩))
      rw [if_pos (by rw [hvx, hvy]; simp [hlt, hz1])] at hi2
      refine hK _ _ _ ?_; clear hK K
      refine Bt ?_
      refine AWP.skip ?_
      refine Ev ?_
      refine AWP.block ?_
      have w4 := w_add1 (a := x) (by omega)
      refine Raf (jn2 @e9 @w4) (fun E K hE hK => ?_); refine hK _ _ _ ?_; clear hE hK K E
      exact ⟨e - (x + 1), by omega, x + 1, rfl, by omega, by omega, hi2, PiAt.cut hid hT hlow _ rfl ⟨rfl, ⟨hs, hb, ho, by exact Ecf (jn2 @e0 @hs)⟩, by exact Ecf @e1, by exact Ecf @e2, by exact Ecf @e3, by exact Er, by exact Ecf @e10⟩⟩
    ·have hlt' : ¬ (x : Int) < (e : Nat) := by omega
     rw [if_neg (by simp [hlt])] at hi2
     refine AWP.seqRegDG [] [] [] mixed (drawF_ok (by kernel_rfl)) (by kernel_rfl) (fun K hK => ?_); simp -implicitDefEqProofs only [go_sem, ↓reduceIte, Nat.reduceEqDiff, Nat.reduceAdd, Nat.reduceLT, Nat.reduceLeDiff, reduceCtorEq, Int.toNat_natCast, e0, e2, e3, e9, hlt']
     repeat (first | (refine Gdf 22 @hlt' ?_) | (refine ⟨by omega, ?_⟩))
     refine hK _ _ _ ?_; clear hK K
     refine Bf ?_
     refine AWP.exit ?_
     refine Ev ?_
     subst hi2
     exact ⟨hax, by omega, ⟨rfl, ⟨hs, hb, ho, by exact Ecf @e0⟩, by exact Ecf @e1, by exact Ecf @e2, by exact Ecf @e3, by exact Ecf @e9, by exact Ecf @e10⟩⟩
   clear hb ho e0 e1 e2 e3 e9 e10 hs hi2
   rintro ⟨t, hh, n⟩ ⟨ha2, he2, hn0, ⟨hs, hb, ho, e0⟩, e1, e2, e3, e9, e10⟩
   simp only at hn0 hb ho e0 e1 e2 e3 e9 e10
   subst hn0
   refine AWP.seq ?_
   by_cases hee : i2 = e
   ·have hee' : (i2 : Int) = (e : Int) := by omega
    rw [if_pos hee] at hR
    refine Rkf (jn3 @e2 @e9 @hee') ?_
    refine Bt ?_
    refine Rk ?_
    refine AWP.ret ?_
    refine Ev ?_
    exact fin _ _ d true hR.symm (by exact Er) hb ho
   have hee' : ¬ (i2 : Int) = (e : Int) := by omega
   rw [if_neg hee] at hR
   refine Rkf (jn3 @e2 @e9 @hee') ?_
   refine Bs ?_
   refine AWP.seq ?_
   have w2 := w_sub (a := e) (c := a) (by omega) (by omega)
   by_cases h50 : e - a < 50
   ·have h50' : ((e - a : Nat) : Int) < 50 := by omega
    rw [if_pos h50] at hR
    refine Rkf (jn4 @e1 @e2 @w2 @h50') ?_
    refine Bt ?_
    refine Rk ?_
    refine AWP.ret ?_
    refine Ev ?_
    exact fin _ _ d false hR.symm (by exact Er) hb ho
   have h50' : ¬ ((e - a : Nat) : Int) < 50 := by omega
   refine Rkf (jn4 @e1 @e2 @w2 @h50') ?_
   refine Bs ?_
   clear hR hee' h50'
   have w3 := w_sub1 (a := i2) (by omega) (by omega)
   rw [← hs] at e0
   have la : i2 < d.size := by omega
   have lb : (i2 - 1) < d.size := by omega
   have la' : ((i2 : Nat) : Int) < d.size := by omega
   have lb' : (((i2 - 1) : Nat) : Int) < d.size := by omega
   have hpa := celQ_get d T i2 la
   have hpb := celQ_get d T (i2 - 1) lb
   have hs1 := celQ_set d T i2 la d[(i2 - 1)]!
   have hs2 := celQ_set (d.setIfInBounds i2 d[(i2 - 1)]!) T (i2 - 1) (by rw [Array.size_setIfInBounds]; exact lb) d[i2]!
   rw [show (d.setIfInBounds i2 d[(i2 - 1)]!).setIfInBounds (i2 - 1) d[i2]! = Sort.swp d i2 (i2 - 1) from rfl] at hs2
   have hb' : hh id = some ⟨ver, celQ d T⟩ := hb
   have hlL := celQ_len d T
   have hlL2 := celQ_len (d.setIfInBounds i2 d[(i2 - 1)]!) T
   rw [Array.size_setIfInBounds] at hlL2
   obtain ⟨vx, hvx⟩ : ∃ v, d[i2]! = v := ⟨_, rfl⟩
   obtain ⟨vy, hvy⟩ : ∃ v, d[(i2 - 1)]! = v := ⟨_, rfl⟩
   rw [hvx] at hpa hs2
   rw [hvy] at hpb hs1 hs2 hlL2
   generalize celQ (d.setIfInBounds i2 vy) T = L2 at hs1 hs2 hlL2
   generalize celQ d T = L1 at hpa hpb hs1 hb' hlL
   refine AWP.seq ?_
   refine AWP.rgD [55, 59] [] [id] mixed (by kernel_rfl) (by kernel_rfl) (fun K hK => ?_) (by kernel_rfl); simp -implicitDefEqProofs only [go_sem, ↓reduceIte, Nat.reduceEqDiff, Nat.reduceAdd, Nat.reduceLT, Nat.reduceLeDiff, reduceCtorEq, Int.toNat_natCast, e0, e9, w3, hb', hpa, hpb, la', lb', hs1, hs2]
   repeat (first | (refine ⟨⟨by omega, by omega⟩, ?_⟩) | (refine ⟨by omega, ?_⟩) | (refine ⟨sub_ers _ _, ?_⟩) | (refine ⟨sub_at _ hb', ?_⟩))
   refine hK _ _ _ ?_; clear hK K
   refine Ev ?_
   obtain ⟨d1, hd1⟩ : ∃ d1, Sort.swp d i2 (i2 - 1) = d1 := ⟨_, rfl⟩
   have hs' : d1.size = N := by rw [← hd1, swp_size, hs]
   rw [hs] at e0
   refine awp_st (PiAt h b id ver cap N T d1 a e g i2 q) ⟨rfl, ⟨hs', by exact Erf @hd1, fun x hx hne => by refine Evf @hne ?_; exact ho x hx hne, by exact Ecf @e0⟩, by exact Ecf @e1, by exact Ecf @e2, by exact Ecf @e3, by exact Ecf @e9, by exact Ecf @e10⟩ ?_
   rw [hd1]
   clear hb ho e0 e1 e2 e3 e9 e10 hs hb' hpa hpb hs1 hs2 hlL hlL2 hvx hvy la lb la' lb' hs' hd1
   rintro ⟨t, hh, n⟩ ⟨hn0, ⟨hs, hb, ho, e0⟩, e1, e2, e3, e9, e10⟩
   simp only at hn0 hb ho e0 e1 e2 e3 e9 e10
   subst hn0
   obtain ⟨d2, hd2⟩ : ∃ d2, pinD (ltZ z) a e i2 d1 = d2 := ⟨_, rfl⟩
   rw [hd2]
   refine AWP.mid (PiAt h b id ver cap N T d2 a e g i2 q) ?_ ?_
   ·have w4 := w_sub (a := i2) (c := a) (by omega) (by omega)
    unfold pinD at hd2
    by_cases h2 : i2 - a ≥ 2
    ·have h2' : ((i2 - a : Nat) : Int) ≥ 2 := by omega
     rw [if_pos h2] at hd2
     refine Rkf (jn4 @e1 @e9 @w4 @h2') ?_
     refine Bt ?_
     refine Rkf (jn2 @e9 @w3) ?_
     refine AWP.block ?_
     refine AWP.loopM 0 (fun m st => ∃ d, m ≤ i2 - 1 ∧ Sort.shiftDown (ltZ z) m d = d2 ∧ PiAt h b id ver cap N T d a e g i2 q st ∧ st.t 11 = IntV m) (i2 - 1) rfl ⟨d1, Nat.le_refl _, hd2, ⟨rfl, ⟨hs, hb, ho, by exact Ecf @e0⟩, by exact Ecf @e1, by exact Ecf @e2, by exact Ecf @e3, by exact Ecf @e9, by exact Ecf @e10⟩, by exact Er⟩ ?_
     clear hd2 hb ho e0 e1 e2 e3 e9 e10 hs
     rintro m ⟨t, hh, n⟩ ⟨d, hm, hd2, ⟨hn0, ⟨hs, hb, ho, e0⟩, e1, e2, e3, e9, e10⟩, e11⟩ hn1
     simp only at hn0 hb ho e0 e1 e2 e3 e9 e10 e11 hn1
     subst hn0
     refine AWP.seq ?_
     cases m with
     | zero =>
       have hge : ¬ ((0 : Nat) : Int) ≥ 1 := by decide
       refine Rkf (jn2 @e11 @hge) ?_
       refine Bf ?_
       refine AWP.exit ?_
       refine Ev ?_
       subst hd2
       exact ⟨rfl, ⟨hs, hb, ho, by exact Ecf @e0⟩, by exact Ecf @e1, by exact Ecf @e2, by exact Ecf @e3, by exact Ecf @e9, by exact Ecf @e10⟩
     | succ j =>
       have hge : ((j + 1 : Nat) : Int) ≥ 1 := by omega
       have w5 := w_sub1 (a := j + 1) (by omega) (by omega)
       rw [Nat.add_sub_cancel] at w5
       rw [Sort.shiftDown] at hd2
       obtain ⟨X, hX⟩ : ∃ X, j + 1 = X := ⟨_, rfl⟩
       rw [hX] at hge w5 e11 hd2
       refine Rkf (jn2 @e11 @hge) ?_
       refine Bt ?_
       refine AWP.skip ?_
       refine Ev ?_
       refine AWP.seq ?_
       refine AWP.block ?_
       refine AWP.seq ?_
       rw [← hs] at e0
       have la : X < d.size := by omega
       have lb : j < d.size := by omega
       have la' : ((X : Nat) : Int) < d.size := by omega
       have lb' : ((j : Nat) : Int) < d.size := by omega
       have hpa := celQ_get d T X la
       have hpb := celQ_get d T j lb
       have hb' : hh id = some ⟨ver, celQ d T⟩ := hb
       have hlL := celQ_len d T
       obtain ⟨vx, hvx⟩ : ∃ v, d[X]! = v := ⟨_, rfl⟩
       obtain ⟨vy, hvy⟩ : ∃ v, d[j]! = v := ⟨_, rfl⟩
       rw [hvx] at hpa
       rw [hvy] at hpb
       generalize celQ d T = L1 at hpa hpb hb' hlL
       refine AWP.seqRegD [] [] [] mixed (by kernel_rfl) (by kernel_rfl) (fun K hK => .inl ?_) (by kernel_rfl); simp -implicitDefEqProofs only [go_sem, ↓reduceIte, Nat.reduceEqDiff, Nat.reduceAdd, Nat.reduceLT, Nat.reduceLeDiff, reduceCtorEq, Int.toNat_natCast, e0, e3, e11, w5, hb', hpa, hpb, la', lb']
       repeat (refine ⟨by omega, ?_⟩)
       refine Ud (cm.calls vx vy _ _) cm.body ?_
       by_cases hz1 : z vx vy < 0
       ·rw [if_neg (by rw [hvx, hvy]; simp [hz1])] at hd2
        refine hK _ _ _ ?_; clear hK K
        refine Bsf @hz1 ?_
        clear hpa hpb hlL hb'
        have la : X < d.size := by omega
        have lb : j < d.size := by omega
        have la' : ((X : Nat) : Int) < d.size := by omega
        have lb' : ((j : Nat) : Int) < d.size := by omega
        have hpa := celQ_get d T X la
        have hpb := celQ_get d T j lb
        have hs1 := celQ_set d T X la d[j]!
        have hs2 := celQ_set (d.setIfInBounds X d[j]!) T j (by rw [Array.size_setIfInBounds]; exact lb) d[X]!
        rw [show (d.setIfInBounds X d[j]!).setIfInBounds j d[X]! = Sort.swp d X j from rfl] at hs2
        have hb' : hh id = some ⟨ver, celQ d T⟩ := hb
        have hlL := celQ_len d T
        have hlL2 := celQ_len (d.setIfInBounds X d[j]!) T
        rw [Array.size_setIfInBounds] at hlL2
        obtain ⟨vx, hvx⟩ : ∃ v, d[X]! = v := ⟨_, rfl⟩
        obtain ⟨vy, hvy⟩ : ∃ v, d[j]! = v := ⟨_, rfl⟩
        rw [hvx] at hpa hs2
        rw [hvy] at hpb hs1 hs2 hlL2
        generalize celQ (d.setIfInBounds X vy) T = L2 at hs1 hs2 hlL2
        generalize celQ d T = L1 at hpa hpb hs1 hb' hlL
        refine AWP.rgD [94, 98] [] [id] mixed (by kernel_rfl) (by kernel_rfl) (fun K hK => ?_) (by kernel_rfl); simp -implicitDefEqProofs only [go_sem, ↓reduceIte, Nat.reduceEqDiff, Nat.reduceAdd, Nat.reduceLT, Nat.reduceLeDiff, reduceCtorEq, Int.toNat_natCast, e0, e3, e11, w5, hb', hpa, hpb, la', lb', hs1, hs2]
        repeat (first | (refine ⟨⟨by omega, by omega⟩, ?_⟩) | (refine ⟨by omega, ?_⟩) | (refine ⟨sub_ers _ _, ?_⟩) | (refine ⟨sub_at _ hb', ?_⟩))
        refine hK _ _ _ ?_; clear hK K
        refine Ev ?_
        refine Raf (jn2 @e11 @w5) (fun E K hE hK => ?_); refine hK _ _ _ ?_; clear hE hK K E
        exact ⟨j, by omega, _, by omega, hd2, PiAt.cut hid hT hlow _ rfl ⟨rfl, ⟨by rw [swp_size, hs], by exact Er, fun x hx hne => by refine Evf @hne ?_; exact ho x hx hne, by exact Ecf (jn2 @e0 @hs)⟩, by exact Ecf @e1, by exact Ecf @e2, by exact Ecf @e3, by exact Ecf @e9, by exact Ecf @e10⟩, by exact Er⟩
       ·rw [if_pos (by rw [hvx, hvy]; simp [hz1])] at hd2
        refine hK _ _ _ ?_; clear hK K
        refine Btf @hz1 ?_
        refine AWP.exit ?_
        refine Ev ?_
        subst hd2
        exact ⟨rfl, ⟨hs, hb, ho, by exact Ecf (jn2 @e0 @hs)⟩, by exact Ecf @e1, by exact Ecf @e2, by exact Ecf @e3, by exact Ecf @e9, by exact Ecf @e10⟩
    ·have h2' : ¬ ((i2 - a : Nat) : Int) ≥ 2 := by omega
     rw [if_neg h2] at hd2
     subst hd2
     refine Rkf (jn4 @e1 @e9 @w4 @h2') ?_
     refine Bf ?_
     refine AWP.skip ?_
     exact ⟨rfl, ⟨hs, hb, ho, by exact Ecf @e0⟩, by exact Ecf @e1, by exact Ecf @e2, by exact Ecf @e3, by exact Ecf @e9, by exact Ecf @e10⟩
   clear hb ho e0 e1 e2 e3 e9 e10 hs hd2
   rintro ⟨t, hh, n⟩ ⟨hn0, ⟨hs, hb, ho, e0⟩, e1, e2, e3, e9, e10⟩
   simp only at hn0 hb ho e0 e1 e2 e3 e9 e10
   subst hn0
   have w4 := w_sub (a := e) (c := i2) (by omega) (by omega)
   obtain ⟨d3, hd3⟩ : ∃ d3, pinU (ltZ z) e i2 d2 = d3 := ⟨_, rfl⟩
   rw [hd3]
   unfold pinU at hd3
   by_cases h2 : e - i2 ≥ 2
   ·have h2' : ((e - i2 : Nat) : Int) ≥ 2 := by omega
    have w5 := w_add1 (a := i2) (by omega)
    rw [if_pos h2] at hd3
    refine Rkf (jn4 @e2 @e9 @w4 @h2') ?_
    refine Bt ?_
    refine Rkf (jn2 @e9 @w5) ?_
    refine AWP.block ?_
    refine AWP.loopM 0 (fun m st => ∃ x d, m = e - x ∧ i2 < x ∧ x ≤ e ∧ Sort.shiftUp (ltZ z) e x d = d3 ∧ PiAt h b id ver cap N T d a e g i2 q st ∧ st.t 12 = IntV x) (e - (i2 + 1)) rfl ⟨i2 + 1, d2, rfl, by omega, by omega, hd3, ⟨rfl, ⟨hs, hb, ho, by exact Ecf @e0⟩, by exact Ecf @e1, by exact Ecf @e2, by exact Ecf @e3, by exact Ecf @e9, by exact Ecf @e10⟩, by exact Er⟩ ?_
    clear hd3 hb ho e0 e1 e2 e3 e9 e10 hs
    rintro m ⟨t, hh, n⟩ ⟨x, d, rfl, hix, hxe, hd3, ⟨hn0, ⟨hs, hb, ho, e0⟩, e1, e2, e3, e9, e10⟩, e12⟩ hn1
    simp only at hn0 hb ho e0 e1 e2 e3 e9 e10 e12 hn1
    subst hn0
    refine AWP.seq ?_
    rw [Sort.shiftUp] at hd3
    by_cases hlt : x < e
    ·have hlt' : (x : Int) < (e : Nat) := by omega
     rw [if_pos hlt] at hd3
     have w6 := w_sub1 (a := x) (by omega) (by omega)
     have w7 := w_add1 (a := x) (by omega)
     refine Rkf (jn3 @e2 @e12 @hlt') ?_
     refine Bt ?_
     refine AWP.skip ?_
     refine Ev ?_
     refine AWP.seq ?_
     refine AWP.block ?_
     refine AWP.seq ?_
     rw [← hs] at e0
     have la : x < d.size := by omega
     have lb : (x - 1) < d.size := by omega
     have la' : ((x : Nat) : Int) < d.size := by omega
     have lb' : (((x - 1) : Nat) : Int) < d.size := by omega
     have hpa := celQ_get d T x la
     have hpb := celQ_get d T (x - 1) lb
     have hb' : hh id = some ⟨ver, celQ d T⟩ := hb
     have hlL := celQ_len d T
     obtain ⟨vx, hvx⟩ : ∃ v, d[x]! = v := ⟨_, rfl⟩
     obtain ⟨vy, hvy⟩ : ∃ v, d[(x - 1)]! = v := ⟨_, rfl⟩
     rw [hvx] at hpa
     rw [hvy] at hpb
     generalize celQ d T = L1 at hpa hpb hb' hlL
     refine AWP.seqRegD [] [] [] mixed (by kernel_rfl) (by kernel_rfl) (fun K hK => .inl ?_) (by kernel_rfl); simp -implicitDefEqProofs only [go_sem, ↓reduceIte, Nat.reduceEqDiff, Nat.reduceAdd, Nat.reduceLT, Nat.reduceLeDiff, reduceCtorEq, Int.toNat_natCast, e0, e3, e12, w6, hb', hpa, hpb, la', lb']
     repeat (refine ⟨by omega, ?_⟩)
     refine Ud (cm.calls vx vy _ _) cm.body ?_
     by_cases hz1 : z vx vy < 0
     ·rw [if_neg (by rw [hvx, hvy]; simp [hz1])] at hd3
      refine hK _ _ _ ?_; clear hK K
      refine Bsf @hz1 ?_
      clear hpa hpb hlL hb'
      have la : x < d.size := by omega
      have lb : (x - 1) < d.size := by omega
      have la' : ((x : Nat) : Int) < d.size := by omega
      have lb' : (((x - 1) : Nat) : Int) < d.size := by omega
      have hpa := celQ_get d T x la
      have hpb := celQ_get d T (x - 1) lb
      have hs1 := celQ_set d T x la d[(x - 1)]!
      have hs2 := celQ_set (d.setIfInBounds x d[(x - 1)]!) T (x - 1) (by rw [Array.size_setIfInBounds]; exact lb) d[x]!
      rw [show (d.setIfInBounds x d[(x - 1)]!).setIfInBounds (x - 1) d[x]! = Sort.swp d x (x - 1) from rfl] at hs2
      have hb' : hh id = some ⟨ver, celQ d T⟩ := hb
      have hlL := celQ_len d T
      have hlL2 := celQ_len (d.setIfInBounds x d[(x - 1)]!) T
      rw [Array.size_setIfInBounds] at hlL2
      obtain ⟨vx, hvx⟩ : ∃ v, d[x]! = v := ⟨_, rfl⟩
      obtain ⟨vy, hvy⟩ : ∃ v, d[(x - 1)]! = v := ⟨_, rfl⟩
      rw [hvx] at hpa hs2
      rw [hvy] at hpb hs1 hs2 hlL2
      generalize celQ (d.setIfInBounds x vy) T = L2 at hs1 hs2 hlL2
      generalize celQ d T = L1 at hpa hpb hs1 hb' hlL
      refine AWP.rgD [134, 138] [] [id] mixed (by kernel_rfl) (by kernel_rfl) (fun K hK => ?_) (by kernel_rfl); simp -implicitDefEqProofs only [go_sem, ↓reduceIte, Nat.reduceEqDiff, Nat.reduceAdd, Nat.reduceLT, Nat.reduceLeDiff, reduceCtorEq, Int.toNat_natCast, e0, e3, e12, w6, hb', hpa, hpb, la', lb', hs1, hs2]
      repeat (first | (refine ⟨⟨by omega, by omega⟩, ?_⟩) | (refine ⟨by omega, ?_⟩) | (refine ⟨sub_ers _ _, ?_⟩) | (refine ⟨sub_at _ hb', ?_⟩))
      refine hK _ _ _ ?_; clear hK K
      refine Ev ?_
      refine Raf (jn2 @e12 @w7) (fun E K hE hK => ?_); refine hK _ _ _ ?_; clear hE hK K E
      exact ⟨e - (x + 1), by omega, x + 1, _, rfl, by omega, by omega, hd3, PiAt.cut hid hT hlow _ rfl ⟨rfl, ⟨by rw [swp_size, hs], by exact Er, fun x hx hne => by refine Evf @hne ?_; exact ho x hx hne, by exact Ecf (jn2 @e0 @hs)⟩, by exact Ecf @e1, by exact Ecf @e2, by exact Ecf @e3, by exact Ecf @e9, by exact Ecf @e10⟩, by exact Er⟩
     ·rw [if_pos (by rw [hvx, hvy]; simp [hz1])] at hd3
      refine hK _ _ _ ?_; clear hK K
      refine Btf @hz1 ?_
      refine AWP.exit ?_
      refine Ev ?_
      subst hd3
      exact ⟨hee, ha2, by omega, h50, ⟨rfl, ⟨hs, hb, ho, by exact Ecf (jn2 @e0 @hs)⟩, by exact Ecf @e1, by exact Ecf @e2, by exact Ecf @e3, by exact Ecf @e9, by exact Ecf @e10⟩⟩
    ·have hlt' : ¬ (x : Int) < (e : Nat) := by omega
     rw [if_neg hlt] at hd3
     subst hd3
     refine Rkf (jn3 @e2 @e12 @hlt') ?_
     refine Bf ?_
     refine AWP.exit ?_
     refine Ev ?_
     exact ⟨hee, ha2, by omega, h50, ⟨rfl, ⟨hs, hb, ho, by exact Ecf @e0⟩, by exact Ecf @e1, by exact Ecf @e2, by exact Ecf @e3, by exact Ecf @e9, by exact Ecf @e10⟩⟩
   ·have h2' : ¬ ((e - i2 : Nat) : Int) ≥ 2 := by omega
    rw [if_neg h2] at hd3
    subst hd3
    refine Rkf (jn4 @e2 @e9 @w4 @h2') ?_
    refine Bf ?_
    refine AWP.skip ?_
    exact ⟨hee, ha2, by omega, h50, ⟨rfl, ⟨hs, hb, ho, by exact Ecf @e0⟩, by exact Ecf @e1, by exact Ecf @e2, by exact Ecf @e3, by exact Ecf @e9, by exact Ecf @e10⟩⟩
  ·clear hb ho e0 e1 e2 e3 e9 e10 hs hi2
   rintro ⟨t, hh, n⟩ ⟨hee, ha2, he2, h50, hn0, ⟨hs, hb, ho, e0⟩, e1, e2, e3, e9, e10⟩
   simp only at hn0 hb ho e0 e1 e2 e3 e9 e10
   subst hn0
   rw [if_neg hee, if_neg h50] at hR
   have w6 := w_add1 (a := q) (by omega)
   refine Raf (jn2 @e10 @w6) (fun E K hE hK => ?_); refine hK _ _ _ ?_; clear hE hK K E
   exact ⟨5 - (q + 1), by omega, q + 1, i2, _, rfl, by omega, ha2, by omega, by rw [show 5 - (q + 1) = s by omega]; exact hR, PiAt.cut hid hT hlow _ rfl ⟨rfl, ⟨hs, hb, ho, by exact Ecf @e0⟩, by exact Ecf @e1, by exact Ecf @e2, by exact Ecf @e3, by exact Ecf @e9, by exact Er⟩⟩
 ·have hq5' : ¬ (q : Int) < 5 := by omega
  rw [show 5 - q = 0 by omega] at hR
  refine Rkf (jn2 @e10 @hq5') ?_
  refine Bf ?_
  refine AWP.exit ?_
  refine Ev ?_
  refine Rk ?_
  refine AWP.ret ?_
  refine Ev ?_
  exact fin _ _ d false hR.symm (by exact Er) hb ho
abbrev UV (x : Nat) : AV := .one (.p (.v (.int .u64 (x : Int))))
theorem xorI_eq (a b : Nat) (ha : a < 18446744073709551616) (hb : b < 18446744073709551616) : xorI .u64 (a : Int) (b : Int) = ((a ^^^ b : Nat) : Int) := bits_xor_u64_nat a b ha hb
theorem andI_eq (a b : Nat) (ha : a < 18446744073709551616) (hb : b < 18446744073709551616) : andI .u64 (a : Int) (b : Int) = ((a &&& b : Nat) : Int) := bits_and_u64_nat a b ha hb
theorem w_u64 (x : Nat) : IntKind.u64.wrap (x : Int) = ((x % 18446744073709551616 : Nat) : Int) := by rw [IntKind.wrap_u64]; omega
theorem bitLen_eq' (x : Nat) (h : x < 2 ^ 64) : Lib.bitLen x = Sort.bitsLen x := by
 induction x using Nat.strongRecOn with
 | _ x ih =>
   by_cases h0 : x = 0
   ·subst h0; rfl
   ·rw [Lib.bitLen_half x h0 h, ih (x / 2) (by omega) (by omega)]
    unfold Sort.bitsLen
    rw [if_neg h0, Nat.log2_def x]
    by_cases h2 : 2 ≤ x
    ·rw [if_pos h2, if_neg (by omega)]; omega
    ·obtain rfl : x = 1 := by omega
     simp
theorem bitsLen_ok (n : Nat) (hn : n < 4611686018427387904) (h : Heap) (b : Nat) : ACalls Tryz.prog 118 [UV n] h b 0 (fun r h' => r = IntV (Sort.bitsLen n) ∧ h' = h) :=
 ACalls.ofVals (xs := [.int .u64 (n : Int)]) (fun w => by
  have hl := Tryz.bits_Len (n : Int) w (by omega) (by omega)
  rwa [Int.toNat_natCast, bitLen_eq' n (by omega)] at hl)
theorem nextPow_ok (n : Nat) (hnn : n < 4611686018427387904) (h : Heap) (b : Nat) : ACalls Tryz.prog 198 [IntV n] h b 0 (fun r h' => r = UV (1 <<< Sort.bitsLen n) ∧ h' = h) := by
 refine ACalls.enter Tryz.func198 rfl (by simp [Tryz.ntmps198]) (fun ι w hn H => ?_)
 have hu : IntKind.u64.wrap (n : Int) = (n : Int) := by rw [w_u64, Nat.mod_eq_of_lt (by omega)]
 have hk : Sort.bitsLen n ≤ 62 := (Sort.bitsLen_le_iff n 62).2 (by omega)
 obtain ⟨q, hq⟩ : ∃ q, Sort.bitsLen n = q := ⟨_, rfl⟩
 have k1 := bitsLen_ok n hnn h b
 rw [hq] at k1 hk ⊢
 have hneg : ¬ (q : Int) < 0 := by omega
 have hpow : IntKind.u64.wrap (1 * (2 : Int) ^ (min q 64)) = ((1 <<< q : Nat) : Int) := by
  have h1 : (2 : Nat) ^ q ≤ 2 ^ 62 := Nat.pow_le_pow_right (by decide) hk
  rw [Nat.min_eq_left (by omega), Int.one_mul, Nat.one_shiftLeft, show ((2 : Int) ^ q) = ((2 ^ q : Nat) : Int) by push_cast; rfl, w_u64]
  generalize (2 : Nat) ^ q = p at h1
  omega
 refine Rk ?_
 refine Rgf @hu (fun E K hE hK => ?_)
 refine Us k1 body_118 ?_
 refine Evf (jn2 @hneg @hpow) ?_
 refine hK _ _ _ ?_; clear hE hK K E
 refine AWP.ret ?_
 exact Ends.pure hn H (fun _ _ => rfl) (r0 := UV (1 <<< q)) (by rw [show Tryz.f198.results.toList = [.tmp 2] from rfl]; exact Er) (.v _) ⟨rfl, rfl⟩
abbrev rnB (v : Nat) (x : Nat) : Blk := ⟨v, [.p (.v (.int .u64 (x : Int)))]⟩
theorem xorshift_ok (X S sv : Nat) (hX : X < 18446744073709551616) {h : Heap} {b : Nat} (hS : S < b) (hs : h S = some (rnB sv X)) : ACalls Tryz.prog 199 [.one (.ptr S sv 0)] h b 0 (fun r h' => r = UV (Sort.xorNextN X) ∧ h' = upd h S (rnB sv (Sort.xorNextN X))) := by
 refine ACalls.enter Tryz.func199 rfl (by simp [Tryz.ntmps199]) (fun ι w hn H => ?_)
 obtain ⟨A, hA⟩ : ∃ A : Nat, A = X ^^^ (X * 8192 % 18446744073709551616) := ⟨_, rfl⟩
 obtain ⟨B, hB⟩ : ∃ B : Nat, B = A ^^^ (A / 128) := ⟨_, rfl⟩
 obtain ⟨D, hD⟩ : ∃ D : Nat, D = B ^^^ (B * 131072 % 18446744073709551616) := ⟨_, rfl⟩
 have lA : A < 18446744073709551616 := by rw [hA]; exact Nat.xor_lt_two_pow (n := 64) (by omega) (by omega)
 have lB : B < 18446744073709551616 := by rw [hB]; exact Nat.xor_lt_two_pow (n := 64) (by omega) (by omega)
 have n13 : ¬ (13 : Int) < 0 := by decide
 have n7 : ¬ (7 : Int) < 0 := by decide
 have n17 : ¬ (17 : Int) < 0 := by decide
 have e1 : xorI .u64 (X : Int) (IntKind.u64.wrap ((X : Int) * 2 ^ (min (Int.toNat 13) 64))) = (A : Int) := by
  rw [show ((2 : Int) ^ (min (Int.toNat 13) 64)) = 8192 from rfl, show ((X : Int) * 8192) = ((X * 8192 : Nat) : Int) by omega, w_u64, xorI_eq _ _ hX (by omega), hA]
 have e2 : xorI .u64 (A : Int) (Int.fdiv (A : Int) (2 ^ (min (Int.toNat 7) 64))) = (B : Int) := by
  rw [show ((2 : Int) ^ (min (Int.toNat 7) 64)) = 128 from rfl, Int.fdiv_eq_ediv_of_nonneg _ (by decide), show ((A : Int) / 128) = ((A / 128 : Nat) : Int) by omega, xorI_eq _ _ lA (by omega), hB]
 have e3 : xorI .u64 (B : Int) (IntKind.u64.wrap ((B : Int) * 2 ^ (min (Int.toNat 17) 64))) = (D : Int) := by
  rw [show ((2 : Int) ^ (min (Int.toNat 17) 64)) = 131072 from rfl, show ((B : Int) * 131072) = ((B * 131072 : Nat) : Int) by omega, w_u64, xorI_eq _ _ lB (by omega), hD]
 have hv : Sort.xorNextN X = D := by unfold Sort.xorNextN; simp only []; rw [← hA, ← hB, ← hD]
 rw [hv]
 clear hA hB hD hv
 refine Rk ?_
 refine AWP.seqRegD [5, 8] [] [S] mixed (by kernel_rfl) (by kernel_rfl) (fun K hK => .inl ?_) (by kernel_rfl); simp -implicitDefEqProofs only [go_sem, ↓reduceIte, Nat.reduceEqDiff, Nat.reduceAdd, Nat.reduceLT, Nat.reduceLeDiff, reduceCtorEq, Int.toNat_natCast, hs, n13, e1]
 refine ⟨sub_ers _ _, sub_ers _ _, sub_at _ hs, ?_⟩
 refine hK _ _ _ ?_; clear hK K
 refine awp_st (fun st => st.n = 0 ∧ st.h S = some (rnB sv A) ∧ (∀ x, x ≠ S → st.h x = h x) ∧ st.t 0 = .one (.ptr S sv 0)) ⟨rfl, by exact Er, fun x hx => by exact Ecf @hx, by exact Er⟩ ?_
 clear hs
 rintro ⟨t, hh, n⟩ ⟨rfl, hs, ho, e0⟩
 simp only at hs ho e0
 refine AWP.seqRegD [14, 17] [] [S] mixed (by kernel_rfl) (by kernel_rfl) (fun K hK => .inl ?_) (by kernel_rfl); simp -implicitDefEqProofs only [go_sem, ↓reduceIte, Nat.reduceEqDiff, Nat.reduceAdd, Nat.reduceLT, Nat.reduceLeDiff, reduceCtorEq, Int.toNat_natCast, e0, hs, n7, e2]
 refine ⟨sub_ers _ _, sub_ers _ _, sub_at _ hs, ?_⟩
 refine hK _ _ _ ?_; clear hK K
 refine awp_st (fun st => st.n = 0 ∧ st.h S = some (rnB sv B) ∧ (∀ x, x ≠ S → st.h x = h x) ∧ st.t 0 = .one (.ptr S sv 0)) ⟨rfl, by exact Er, fun x hx => by refine Evf @hx ?_; exact ho x hx, by exact Erf @e0⟩ ?_
 clear hs ho e0
 rintro ⟨t, hh, n⟩ ⟨rfl, hs, ho, e0⟩
 simp only at hs ho e0
 refine AWP.seqRegD [23, 26] [] [S] mixed (by kernel_rfl) (by kernel_rfl) (fun K hK => .inl ?_) (by kernel_rfl); simp -implicitDefEqProofs only [go_sem, ↓reduceIte, Nat.reduceEqDiff, Nat.reduceAdd, Nat.reduceLT, Nat.reduceLeDiff, reduceCtorEq, Int.toNat_natCast, e0, hs, n17, e3]
 refine ⟨sub_ers _ _, sub_ers _ _, sub_at _ hs, ?_⟩
 refine hK _ _ _ ?_; clear hK K
 refine awp_st (fun st => st.n = 0 ∧ st.h S = some (rnB sv D) ∧ (∀ x, x ≠ S → st.h x = h x) ∧ st.t 0 = .one (.ptr S sv 0)) ⟨rfl, by exact Er, fun x hx => by refine Evf @hx ?_; exact ho x hx, by exact Erf @e0⟩ ?_
 clear hs ho e0
 rintro ⟨t, hh, n⟩ ⟨rfl, hs, ho, e0⟩
 simp only at hs ho e0
 refine Rkf (jn2 @e0 @hs) ?_
 refine AWP.ret ?_
 refine Ev ?_
 exact Ends.turn hn H hS (blk := rnB sv D) (upd_all hs (fun x _ hx => ho x hx)) rfl (r0 := UV D) (by rw [show Tryz.f199.results.toList = [.tmp 2] from rfl]; exact Er) (.v _) ⟨rfl, rfl⟩
theorem RwAt.cut1 {h : Heap} {b id ver cap n : Nat} {T : List Cell} {d : Array El} {st : St} (hid : id < b) (hT : lowCs 0 T = true) (hlow : ∀ id blk, h id = some blk → ∀ c ∈ blk.cells, lowC b c = true) (C : Ctx) (hC : C.b = b) (m : Nat)
  (r : RwAt h b id ver cap n T d st) : RwAt h b id ver cap n T d (st.cut C m) := by
 subst hC
 obtain ⟨t, hh, m'⟩ := st
 obtain ⟨h1, h2, h3, h4⟩ := r
 simp only at h2 h3 h4
 refine ⟨h1, cutH_same (by omega) h2 (lowCs_app (lowCs_p _ _) (lowCs_of fun c hc => lowC_mono (Nat.zero_le _) (lowCs_mem hT c hc))), fun x hx hne => ?_, ?_⟩
 ·show cutH (C.b + m) hh x = h x
  have e := h3 x hx hne
  cases h0 : h x with
  | none => unfold cutH; rw [if_pos (by omega), e, h0]; rfl
  | some blk => exact cutH_same (by omega) (e.trans h0) (lowCs_of fun c hc => lowC_mono (Nat.le_add_right _ _) (hlow x blk h0 c hc))
 ·show cutV _ (t 0) = _
  rw [h4]; exact cutV_win (by omega)
def bpRest (a L M i0 : Nat) : Nat → Nat → UInt64 × Array El → Array El
 | 0, _, st => st.2
 | k + 1, t, st => bpRest a L M i0 k (t + 1) (Sort.breakStep a L M st (i0 + t))
theorem breakPatterns_eq (d : Array El) (a e : Nat) : Sort.breakPatterns d a e = if 8 ≤ e - a then bpRest a (e - a) (1 <<< Sort.bitsLen (e - a)) (a + (e - a) / 4 * 2 - 1) 3 0 (UInt64.ofNat (e - a), d) else d := rfl
structure BpAt (h : Heap) (b id ver cap N : Nat) (T : List Cell) (d : Array El) (a l M : Nat) (r : Nat) (idx : Nat) (st : St) : Prop where
 n : st.n = 1
 row : RwAt h b id ver cap N T d st
 rn : st.h b = some (rnB 0 r)
 a : st.t 1 = IntV a
 l : st.t 8 = IntV l
 p : st.t 9 = .one (.ptr b 0 0)
 m : st.t 10 = UV M
 i : st.t 11 = IntV idx
theorem BpAt.cut {h : Heap} {b id ver cap N : Nat} {T : List Cell} {d : Array El} {a l M r idx : Nat} {st : St} (hid : id < b) (hT : lowCs 0 T = true) (hlow : ∀ id blk, h id = some blk → ∀ c ∈ blk.cells, lowC b c = true) (C : Ctx) (hC : C.b = b)
  (k : BpAt h b id ver cap N T d a l M r idx st) : BpAt h b id ver cap N T d a l M r idx (st.cut C 1) := by
 obtain ⟨t, hh, n⟩ := st
 obtain ⟨_, h1, h5, h6, h7, h8, h9, h10⟩ := k
 simp only at h5 h6 h7 h8 h9 h10
 refine ⟨rfl, RwAt.cut1 hid hT hlow C hC 1 h1, cutH_same (by omega) h5 rfl, ?_, ?_, ?_, ?_, ?_⟩
 ·show cutV _ (t 1) = _; rw [h6]; rfl
 ·show cutV _ (t 8) = _; rw [h7]; rfl
 ·show cutV _ (t 9) = _; rw [h8]; exact cutV_ptr (by omega)
 ·show cutV _ (t 10) = _; rw [h9]; rfl
 ·show cutV _ (t 11) = _; rw [h10]; rfl
theorem breakPatterns_ok (g : FuncId) {h : Heap} {b id ver cap : Nat} {d0 : Array El} {T : List Cell} (k : PdAt h id ver d0 T) (hid : id < b) (a e : Nat) (hae : a ≤ e) (he : e ≤ d0.size) :
  ACalls Tryz.prog 161 [winQ id ver cap d0.size, IntV a, IntV e, cloV g] h b 0
   (fun r h' => r = .tup [] ∧ h' = upd h id (rowQ ver (Sort.breakPatterns d0 a e) T)) := by
 refine ACalls.enter Tryz.func161 rfl (by simp [Tryz.ntmps161]) (fun ι w hn H => ?_)
 have hlow := H.lowCells
 have hz := k.size
 obtain ⟨N, hN⟩ : ∃ N, d0.size = N := ⟨_, rfl⟩
 have hrow := k.row
 have hT := k.low
 rw [hN] at hz he ⊢
 rw [breakPatterns_eq]
 obtain ⟨l, hl⟩ : ∃ l, e - a = l := ⟨_, rfl⟩
 have w1 : IntKind.i64.wrap ((e : Int) - (a : Int)) = (l : Int) := by rw [w_sub hae (by omega)]; omega
 rw [hl]
 refine Rkf @w1 ?_
 by_cases h8 : 8 ≤ l
 ·have h8' : (l : Int) ≥ 8 := by omega
  rw [if_pos h8]
  refine Rkf @h8' ?_
  refine Bt ?_
  obtain ⟨q, hq⟩ : ∃ q, l / 4 = q := ⟨_, rfl⟩
  rw [hq]
  obtain ⟨M, hM⟩ : ∃ M, 1 <<< Sort.bitsLen l = M := ⟨_, rfl⟩
  have hM2 : M ≤ 2 * l := by rw [← hM, Nat.one_shiftLeft]; exact Sort.two_pow_bitsLen_le (by omega)
  have hM1 : 1 ≤ M := by rw [← hM, Nat.one_shiftLeft]; exact Nat.one_le_two_pow
  rw [hM]
  have hu : IntKind.u64.wrap (l : Int) = (l : Int) := by rw [w_u64, Nat.mod_eq_of_lt (by omega)]
  have k1 := nextPow_ok l (by omega) (upd h b (rnB 0 l)) (b + 1)
  rw [hM] at k1
  refine Rkf @hu ?_
  refine Rg (fun E K hE hK => ?_)
  refine Us k1 body_198 ?_
  refine hK _ _ _ ?_; clear hE hK K E
  have h40 : ¬ (4 : Int) = 0 := by decide
  have w2 : IntKind.i64.wrap (Int.tdiv (l : Int) 4) = (q : Int) := by rw [w_quo4 (by omega)]; omega
  have m2 : IntKind.i64.wrap ((q : Int) * 2) = ((q * 2 : Nat) : Int) := by rw [wrap_i64 (by omega) (by omega)]; omega
  have p2 := w_add (a := a) (c := q * 2) (by omega)
  have s2 := w_sub1 (a := a + q * 2) (by omega) (by omega)
  have s3 := w_add1 (a := a + q * 2) (by omega)
  refine Rkf (jn5 @w2 @m2 @p2 @s2 @h40) ?_
  refine AWP.block ?_
  obtain ⟨df, hdf⟩ : ∃ df, bpRest a l M (a + q * 2 - 1) 3 0 (UInt64.ofNat l, d0) = df := ⟨_, rfl⟩
  rw [hdf]
  refine AWP.loopM 1 (fun m st => ∃ r d, m ≤ 3 ∧ bpRest a l M (a + q * 2 - 1) m (3 - m) (r, d) = df ∧ BpAt h b id ver cap N T d a l M r.toNat (a + q * 2 - 1 + (3 - m)) st) 3 rfl
   ⟨UInt64.ofNat l, d0, Nat.le_refl _, hdf, ⟨rfl, ⟨hN, by refine Evf (show ¬ id = b by omega) ?_; exact hrow, fun x hx hne => by exact Ecf (show ¬ x = b by omega), by exact Er⟩, by rw [UInt64.toNat_ofNat_of_lt' (by show l < 18446744073709551616; omega)]; exact Er, by exact Er, by exact Er, by exact Er, by exact Er, by exact Er⟩⟩ ?_
  clear hdf k1 hu hrow hN k w1 hM
  rintro m ⟨t, hh, n⟩ ⟨r, d, hm3, hd, rfl, ⟨hs, hb, ho, e0⟩, hrn, e1, e8, e9, e10, e11⟩ hn1
  simp only at hb ho e0 hrn e1 e8 e9 e10 e11 hn1
  refine AWP.seq ?_
  cases m with
  | zero =>
    have hgt : ¬ ((a + q * 2 - 1 + 3 : Nat) : Int) ≤ ((a + q * 2 + 1 : Nat) : Int) := by omega
    rw [show a + q * 2 - 1 + (3 - 0) = a + q * 2 - 1 + 3 from rfl] at e11
    refine Rkf (jn3 @e1 @e8 (jn7 @e11 @w2 @m2 @p2 @s3 @h40 @hgt)) ?_
    refine Bf ?_
    refine AWP.exit ?_
    refine Ev ?_
    subst hd
    exact RwAt.ends (C := ⟨_, b, ι, h, w, x0⟩) hid hT hn H hb ho rfl (frz_tup0 _ _) ⟨rfl, rfl⟩
  | succ m =>
    obtain ⟨i, hi⟩ : ∃ i, a + q * 2 - 1 + (3 - (m + 1)) = i := ⟨_, rfl⟩
    have hid2 : ¬ b = id := by omega
    rw [hi] at e11
    have hle : ((i : Nat) : Int) ≤ ((a + q * 2 + 1 : Nat) : Int) := by omega
    have hstep : bpRest a l M (a + q * 2 - 1) (m + 1) (3 - (m + 1)) (r, d) = bpRest a l M (a + q * 2 - 1) m (3 - m) (Sort.breakStep a l M (r, d) i) := by
     rw [← hi]
     show bpRest a l M (a + q * 2 - 1) m (3 - (m + 1) + 1) _ = _
     rw [show 3 - (m + 1) + 1 = 3 - m by omega]
    rw [hstep] at hd
    clear hstep
    unfold Sort.breakStep at hd
    dsimp only at hd
    refine Rkf (jn3 @e1 @e8 (jn7 @e11 @w2 @m2 @p2 @s3 @h40 @hle)) ?_
    refine Bt ?_
    refine AWP.skip ?_
    refine Ev ?_
    refine AWP.seq ?_
    refine AWP.block ?_
    obtain ⟨r2, hr2⟩ : ∃ r2, Sort.xorNext r = r2 := ⟨_, rfl⟩
    rw [hr2] at hd
    have hx : Sort.xorNextN r.toNat = r2.toNat := by rw [← Sort.xorNext_toNat, hr2]
    have k2 := xorshift_ok r.toNat b 0 r.toNat_lt (h := hh) (b := b + 1) (by omega) hrn
    rw [hx] at k2
    have u1 : IntKind.u64.wrap ((M : Int) - 1) = ((M - 1 : Nat) : Int) := by rw [show ((M : Int) - 1) = ((M - 1 : Nat) : Int) by omega, w_u64, Nat.mod_eq_of_lt (by omega)]
    have hrl := r2.toNat_lt
    have u2 := andI_eq r2.toNat (M - 1) (by omega) (by omega)
    obtain ⟨o1, ho1⟩ : ∃ o1, r2.toNat &&& (M - 1) = o1 := ⟨_, rfl⟩
    have ho2 : o1 ≤ M - 1 := by rw [← ho1]; exact Nat.and_le_right
    rw [ho1] at u2 hd
    have u3 : IntKind.i64.wrap (o1 : Int) = (o1 : Int) := wrap_i64 (by omega) (by omega)
    clear hx ho1 hr2
    refine Rgf @e9 (fun E K hE hK => ?_)
    refine Us k2 body_199 ?_
    refine Evf (jn4 @e10 @u1 @u2 @u3) ?_
    refine hK _ _ _ ?_; clear hE hK K E
    obtain ⟨o, hov⟩ : ∃ o, (if o1 ≥ l then o1 - l else o1) = o := ⟨_, rfl⟩
    rw [hov] at hd
    have hol : o < l := by rw [← hov]; split <;> omega
    refine AWP.mid (fun st => BpAt h b id ver cap N T d a l M r2.toNat i st ∧ st.t 12 = IntV o) ?_ ?_
    ·by_cases hge : o1 ≥ l
     ·have hge' : (o1 : Int) ≥ (l : Int) := by omega
      rw [if_pos hge] at hov
      have u4 := w_sub (a := o1) (c := l) (by omega) (by omega)
      rw [hov] at u4
      refine Rkf (jn2 @e8 @hge') ?_
      refine Bt ?_
      refine Raf (jn2 @e8 @u4) (fun E K hE hK => ?_); refine hK _ _ _ ?_; clear hE hK K E
      exact ⟨⟨rfl, ⟨hs, by refine Evf (show ¬ id = b by omega) ?_; exact hb, fun x hx hne => by refine Evf (show ¬ x = b by omega) ?_; exact ho x hx hne, by exact Ecf @e0⟩, by exact Er, by exact Ecf @e1, by exact Ecf @e8, by exact Ecf @e9, by exact Ecf @e10, by exact Ecf @e11⟩, by exact Er⟩
     ·have hge' : ¬ (o1 : Int) ≥ (l : Int) := by omega
      rw [if_neg hge] at hov
      subst hov
      refine Rkf (jn2 @e8 @hge') ?_
      refine Bf ?_
      refine AWP.skip ?_
      exact ⟨⟨rfl, ⟨hs, by refine Evf (show ¬ id = b by omega) ?_; exact hb, fun x hx hne => by refine Evf (show ¬ x = b by omega) ?_; exact ho x hx hne, by exact Ecf @e0⟩, by exact Er, by exact Ecf @e1, by exact Ecf @e8, by exact Ecf @e9, by exact Ecf @e10, by exact Ecf @e11⟩, by exact Er⟩
    clear hb ho e0 hrn e1 e8 e9 e10 e11 hs k2
    rintro ⟨t, hh, n⟩ ⟨⟨rfl, ⟨hs, hb, ho, e0⟩, hrn, e1, e8, e9, e10, e11⟩, e12⟩
    simp only at hb ho e0 hrn e1 e8 e9 e10 e11 e12
    have m7 := w_add (a := a) (c := o) (by omega)
    have w4 := w_add1 (a := i) (by omega)
    obtain ⟨Y, hY⟩ : ∃ Y, a + o = Y := ⟨_, rfl⟩
    rw [hY] at m7 hd
    rw [← hs] at e0
    have la : i < d.size := by omega
    have lb : Y < d.size := by omega
    have la' : ((i : Nat) : Int) < d.size := by omega
    have lb' : ((Y : Nat) : Int) < d.size := by omega
    have hpa := celQ_get d T i la
    have hpb := celQ_get d T Y lb
    have hs1 := celQ_set d T i la d[Y]!
    have hs2 := celQ_set (d.setIfInBounds i d[Y]!) T Y (by rw [Array.size_setIfInBounds]; exact lb) d[i]!
    rw [show (d.setIfInBounds i d[Y]!).setIfInBounds Y d[i]! = Sort.swp d i Y from rfl] at hs2
    have hb' : hh id = some ⟨ver, celQ d T⟩ := hb
    have hlL := celQ_len d T
    have hlL2 := celQ_len (d.setIfInBounds i d[Y]!) T
    rw [Array.size_setIfInBounds] at hlL2
    obtain ⟨vx, hvx⟩ : ∃ v, d[i]! = v := ⟨_, rfl⟩
    obtain ⟨vy, hvy⟩ : ∃ v, d[Y]! = v := ⟨_, rfl⟩
    rw [hvx] at hpa hs2
    rw [hvy] at hpb hs1 hs2 hlL2
    generalize celQ (d.setIfInBounds i vy) T = L2 at hs1 hs2 hlL2
    generalize celQ d T = L1 at hpa hpb hs1 hb' hlL
    refine AWP.rgD [60, 64] [] [id] mixed (by kernel_rfl) (by kernel_rfl) (fun K hK => ?_) (by kernel_rfl); simp -implicitDefEqProofs only [go_sem, ↓reduceIte, Nat.reduceEqDiff, Nat.reduceAdd, Nat.reduceLT, Nat.reduceLeDiff, reduceCtorEq, Int.toNat_natCast, e0, e1, e11, e12, m7, hb', hpa, hpb, la', lb', hs1, hs2]
    repeat (first | (refine ⟨⟨by omega, by omega⟩, ?_⟩) | (refine ⟨by omega, ?_⟩) | (refine ⟨sub_ers _ _, ?_⟩) | (refine ⟨sub_at _ hb', ?_⟩))
    refine hK _ _ _ ?_; clear hK K
    refine Ev ?_
    refine Raf (jn2 @e11 @w4) (fun E K hE hK => ?_); refine hK _ _ _ ?_; clear hE hK K E
    refine ⟨Nat.le_refl _, m, by omega, r2, _, by omega, hd, BpAt.cut hid hT hlow _ rfl ⟨rfl, ⟨by rw [swp_size, hs], by exact Er, fun x hx hne => by refine Evf @hne ?_; exact ho x hx hne, by exact Ecf (jn2 @e0 @hs)⟩, by refine Evf @hid2 ?_; exact hrn, by exact Ecf @e1, by exact Ecf @e8, by exact Ecf @e9, by exact Ecf @e10, by exact Ecf (show a + q * 2 - 1 + (3 - m) = i + 1 by omega)⟩⟩
 ·have h8' : ¬ (l : Int) ≥ 8 := by omega
  rw [if_neg h8]
  refine Rkf @h8' ?_
  refine Bs ?_
  exact RwAt.ends (C := ⟨_, b, ι, h, w, x0⟩) hid hT hn H hrow (fun _ _ _ => rfl) rfl (frz_tup0 _ _) ⟨rfl, rfl⟩
structure QAt (h : Heap) (b id ver cap N : Nat) (T : List Cell) (d : Array El) (a e lim : Nat) (g : FuncId) (wb wp : Bool) (st : St) : Prop where
 n : st.n = 0
 row : RwAt h b id ver cap N T d st
 a : st.t 1 = IntV a
 e : st.t 2 = IntV e
 lim : st.t 3 = IntV lim
 g : st.t 4 = cloV g
 wb : st.t 10 = BoolV wb
 wp : st.t 11 = BoolV wp
theorem QAt.cut {h : Heap} {b id ver cap N : Nat} {T : List Cell} {d : Array El} {a e lim : Nat} {g : FuncId} {wb wp : Bool} {st : St} (hid : id < b) (hT : lowCs 0 T = true) (hlow : ∀ id blk, h id = some blk → ∀ c ∈ blk.cells, lowC b c = true) (C : Ctx) (hC : C.b = b)
  (k : QAt h b id ver cap N T d a e lim g wb wp st) : QAt h b id ver cap N T d a e lim g wb wp (st.cut C 0) := by
 obtain ⟨t, hh, n⟩ := st
 obtain ⟨_, ⟨h1, h2, h3, h4⟩, h5, h6, h7, h8, h9, h10⟩ := k
 simp only at h2 h3 h4 h5 h6 h7 h8 h9 h10
 refine ⟨rfl, RwAt.cut hid hT hlow C hC h1 h2 h3 h4, ?_, ?_, ?_, ?_, ?_, ?_⟩
 ·show cutV _ (t 1) = _; rw [h5]; rfl
 ·show cutV _ (t 2) = _; rw [h6]; rfl
 ·show cutV _ (t 3) = _; rw [h7]; rfl
 ·show cutV _ (t 4) = _; rw [h8]; rfl
 ·show cutV _ (t 10) = _; rw [h9]; rfl
 ·show cutV _ (t 11) = _; rw [h10]; rfl
theorem hintN_two (x : Sort.Hint) : hintN x = 2 ↔ x = .decreasing := by cases x <;> simp [hintN]
theorem hintN_one (x : Sort.Hint) : hintN x = 1 ↔ x = .increasing := by cases x <;> simp [hintN]
def pdqC (g : FuncId) (z : El → El → Int) (m : Nat) : Prop := ∀ {h : Heap} {b id ver cap : Nat} {d0 : Array El} {T : List Cell} (_ : PdAt h id ver d0 T) (_ : id < b) (a e lim : Nat), e - a ≤ m → a ≤ e → e ≤ d0.size → lim ≤ 1000000 → Sort.Below (ltZ z) a e d0 →
    ACalls Tryz.prog 117 [winQ id ver cap d0.size, IntV a, IntV e, IntV lim, cloV g] h b 0 (fun r h' => r = .tup [] ∧ h' = upd h id (rowQ ver (Sort.pdq (ltZ z) d0 a e lim true true) T))
theorem pdqsort_ok {g : FuncId} {z : El → El → Int} (cm : CmpQ g z) (hO : Sort.SWO (ltZ z)) : ∀ m, pdqC g z m := by
 intro m
 induction m using Nat.strongRecOn with
 | _ m ih =>
 intro h b id ver cap d0 T k hid a e lim hm hae he hlim hB
 refine ACalls.enter Tryz.func117 rfl (by simp [Tryz.ntmps117]) (fun ι w hn H => ?_)
 have hlow := H.lowCells
 have hz := k.size
 obtain ⟨N, hN⟩ : ∃ N, d0.size = N := ⟨_, rfl⟩
 have hrow := k.row
 have hT := k.low
 rw [hN] at hz he ⊢
 obtain ⟨R, hR⟩ : ∃ R, Sort.pdq (ltZ z) d0 a e lim true true = R := ⟨_, rfl⟩
 rw [hR]
 refine Rk ?_
 refine Rk ?_
 refine AWP.block ?_
 refine AWP.loopM 0 (fun M st => ∃ a e lim wb wp d, M = e - a ∧ e - a ≤ m ∧ a ≤ e ∧ e ≤ N ∧ lim ≤ 1000000 ∧ Sort.Below (ltZ z) a e d ∧ Sort.pdq (ltZ z) d a e lim wb wp = R ∧ QAt h b id ver cap N T d a e lim g wb wp st) (e - a) rfl
  ⟨a, e, lim, true, true, d0, rfl, hm, hae, he, hlim, hB, hR, ⟨rfl, ⟨hN, hrow, fun _ _ _ => rfl, by exact Er⟩, by exact Er, by exact Er, by exact Er, by exact Er, by exact Er, by exact Er⟩⟩ ?_
 clear hR hB hlim he hae hm hrow hN k
 clear a e lim
 rintro M ⟨t, hh, n⟩ ⟨a, e, lim, wb, wp, d, rfl, hm, hae, he, hlim, hB, hR, hn0, ⟨hs, hb, ho, e0⟩, e1, e2, e3, e4, e10, e11⟩ hn1
 simp only at hn0 hb ho e0 e1 e2 e3 e4 e10 e11 hn1
 subst hn0
 have fin : ∀ (t : Nat → AV) (hh : Heap), hh id = some (rowQ ver R T) → (∀ x, x < b → x ≠ id → hh x = h x) → Am.Ends Tryz.prog ⟨Tryz.f117.ntmps, b, ι, h, w, x0⟩ Tryz.f117 0 (fun r h' => r = .tup [] ∧ h' = upd h id (rowQ ver R T)) ⟨t, hh, 0⟩ := by
  intro t hh h2 h3
  exact RwAt.ends (C := ⟨_, b, ι, h, w, x0⟩) hid hT hn H h2 h3 rfl (frz_tup0 _ _) ⟨rfl, rfl⟩
 have kk : ∀ (hh : Heap) (d : Array El), d.size = N → hh id = some (rowQ ver d T) → PdAt hh id ver d T := fun hh d h1 h2 => ⟨h2, hT, by rw [h1]; exact hz⟩
 have w1 := w_sub (a := e) (c := a) hae (by omega)
 refine AWP.block ?_
 refine Rkf (jn3 @e1 @e2 @w1) ?_
 refine AWP.seq ?_
 by_cases h12 : e - a ≤ 12
 ·have h12' : ((e - a : Nat) : Int) ≤ 12 := by omega
  have k1 := insertionSort_ok cm (b := b + 0) (cap := cap) (kk hh d hs hb) hid a e hae (by omega)
  rw [hs, ← Sort.pdq_small (limit := lim) (wb := wb) (wp := wp) h12, hR] at k1
  refine Rkf @h12' ?_
  refine Bt ?_
  refine Rgf (jn4 @e0 @e1 @e2 @e4) (fun E K hE hK => ?_)
  refine Us k1 body_159 ?_
  refine hK _ _ _ ?_; clear hE hK K E
  refine AWP.ret ?_
  refine Ev ?_
  exact fin _ _ (by exact Er) (fun x hx hne => by refine Evf @hne ?_; exact ho x hx hne)
 have h12' : ¬ ((e - a : Nat) : Int) ≤ 12 := by omega
 refine Rkf @h12' ?_
 refine Bs ?_
 refine AWP.seq ?_
 by_cases hl0 : lim = 0
 ·have hl0' : (lim : Int) = 0 := by omega
  have k1 := heapSort_ok cm (b := b + 0) (cap := cap) (kk hh d hs hb) hid a e hae (by omega)
  rw [hs, ← Sort.pdq_heap (limit := lim) (wb := wb) (wp := wp) h12 hl0, hR] at k1
  refine Rkf (jn2 @e3 @hl0') ?_
  refine Bt ?_
  refine Rgf (jn4 @e0 @e1 @e2 @e4) (fun E K hE hK => ?_)
  refine Us k1 body_160 ?_
  refine hK _ _ _ ?_; clear hE hK K E
  refine AWP.ret ?_
  refine Ev ?_
  exact fin _ _ (by exact Er) (fun x hx hne => by refine Evf @hne ?_; exact ho x hx hne)
 have hl0' : ¬ (lim : Int) = 0 := by omega
 refine Rkf (jn2 @e3 @hl0') ?_
 refine Bs ?_
 have F := Sort.rd_facts (lt := ltZ z) (limit := lim) (wb := wb) (wp := wp) hO Sort.partialInsertionSort_holds Sort.reverseRange_holds (show a < e by omega) (show e ≤ d.size by omega) hB
 have hll := Sort.rd_lim_le (lt := ltZ z) (d := d) (a := a) (b := e) (limit := lim) (wb := wb) (wp := wp)
 have q1f : wb = false → (Sort.rd (ltZ z) d a e lim wb wp).d1 = Sort.breakPatterns d a e ∧ (Sort.rd (ltZ z) d a e lim wb wp).lim = lim - 1 := fun q => by subst q; exact Sort.rd_false
 have q1t : wb = true → (Sort.rd (ltZ z) d a e lim wb wp).d1 = d ∧ (Sort.rd (ltZ z) d a e lim wb wp).lim = lim := fun q => by subst q; exact Sort.rd_true
 have qc := Sort.rd_c (lt := ltZ z) (d := d) (a := a) (b := e) (limit := lim) (wb := wb) (wp := wp)
 have qd := Sort.rd_dec (lt := ltZ z) (d := d) (a := a) (b := e) (limit := lim) (wb := wb) (wp := wp)
 have qn := Sort.rd_not (lt := ltZ z) (d := d) (a := a) (b := e) (limit := lim) (wb := wb) (wp := wp)
 have qy := Sort.rd_pi_yes (lt := ltZ z) (d := d) (a := a) (b := e) (limit := lim) (wb := wb) (wp := wp)
 have qo := Sort.rd_pi_no (lt := ltZ z) (d := d) (a := a) (b := e) (limit := lim) (wb := wb) (wp := wp)
 have rdone := Sort.pdq_done (lt := ltZ z) (d := d) (a := a) (b := e) (limit := lim) (wb := wb) (wp := wp) h12 hl0
 have req := Sort.pdq_eq (lt := ltZ z) (d := d) (a := a) (b := e) (limit := lim) (wb := wb) (wp := wp) h12 hl0
 have rleft := Sort.pdq_left (lt := ltZ z) (d := d) (a := a) (b := e) (limit := lim) (wb := wb) (wp := wp) h12 hl0
 have rright := Sort.pdq_right (lt := ltZ z) (d := d) (a := a) (b := e) (limit := lim) (wb := wb) (wp := wp) h12 hl0
 rw [hR] at rdone req rleft rright
 obtain ⟨D, hD⟩ : ∃ D, Sort.rd (ltZ z) d a e lim wb wp = D := ⟨_, rfl⟩
 rw [hD] at F hll q1f q1t qc qd qn qy qo rdone req rleft rright
 clear hD hR h12' hl0'
 obtain ⟨s1, B1, hc1, s2, B2, hpv, s3, B3⟩ := F
 rw [hs] at s1 s2 s3
 refine AWP.mid (fun st => QAt h b id ver cap N T D.d1 a e D.lim g wb wp st ∧ st.t 12 = IntV (e - a : Nat)) ?_ ?_
 ·cases wb with
  | true =>
    obtain ⟨x1, x2⟩ := q1t rfl
    rw [x1, x2]
    refine Rkf @e10 ?_
    refine Bf ?_
    refine AWP.skip ?_
    exact ⟨⟨rfl, ⟨hs, hb, ho, by exact Ecf @e0⟩, by exact Ecf @e1, by exact Ecf @e2, by exact Ecf @e3, by exact Ecf @e4, by exact Ecf @e10, by exact Ecf @e11⟩, by exact Er⟩
  | false =>
    obtain ⟨x1, x2⟩ := q1f rfl
    have k1 := breakPatterns_ok g (b := b + 0) (cap := cap) (kk hh d hs hb) hid a e hae (by omega)
    rw [hs, ← x1] at k1
    have w2 := w_sub1 (a := lim) (by omega) (by omega)
    rw [x2]
    refine Rkf @e10 ?_
    refine Bt ?_
    refine Rgf (jn4 @e0 @e1 @e2 @e4) (fun E K hE hK => ?_)
    refine Us k1 body_161 ?_
    refine hK _ _ _ ?_; clear hE hK K E
    refine Raf (jn2 @e3 @w2) (fun E K hE hK => ?_); refine hK _ _ _ ?_; clear hE hK K E
    exact ⟨⟨rfl, ⟨s1, by exact Er, fun x hx hne => by refine Evf @hne ?_; exact ho x hx hne, by exact Ecf @e0⟩, by exact Ecf @e1, by exact Ecf @e2, by exact Er, by exact Ecf @e4, by exact Ecf @e10, by exact Ecf @e11⟩, by exact Er⟩
 clear hb ho e0 e1 e2 e3 e4 e10 e11 hs q1f q1t hB d
 rintro ⟨t, hh, n⟩ ⟨⟨hn0, ⟨hs, hb, ho, e0⟩, e1, e2, e3, e4, e10, e11⟩, e12⟩
 simp only at hn0 hb ho e0 e1 e2 e3 e4 e10 e11 e12
 subst hn0
 have k1 := choosePivot_ok cm (b := b + 0) (cap := cap) (kk hh D.d1 hs hb) hid a e (by omega) (by omega)
 rw [hs, ← qc] at k1
 refine Rgf (jn4 @e0 @e1 @e2 @e4) (fun E K hE hK => ?_)
 refine Us k1 body_162 ?_
 refine hK _ _ _ ?_; clear hE hK K E
 refine AWP.mid (fun st => QAt h b id ver cap N T D.d2 a e D.lim g wb wp st ∧ st.t 12 = IntV (e - a : Nat) ∧ st.t 13 = IntV D.pivot ∧ st.t 14 = IntV (hintN D.hint)) ?_ ?_
 ·by_cases hdec : D.c.2 = .decreasing
  ·have hdec' : ((hintN D.c.2 : Nat) : Int) = 2 := by rw [(hintN_two _).2 hdec]; rfl
   obtain ⟨x1, x2, x3⟩ := qd hdec
   have k2 := reverseRange_ok g (b := b + 0) (cap := cap) (kk hh D.d1 hs hb) hid a e (by omega) (by omega)
   rw [hs, ← x1] at k2
   have w2 := w_sub1 (a := e) (by omega) (by omega)
   have w3 := w_sub (a := D.c.1) (c := a) (by omega) (by omega)
   have w4 := w_sub (a := e - 1) (c := D.c.1 - a) (by omega) (by omega)
   refine Rkf @hdec' ?_
   refine Bt ?_
   refine Rgf (jn4 @e0 @e1 @e2 @e4) (fun E K hE hK => ?_)
   refine Us k2 body_163 ?_
   refine hK _ _ _ ?_; clear hE hK K E
   refine Rkf (jn5 @e1 @e2 @w2 @w3 @w4) ?_
   refine Ra (fun E K hE hK => ?_); refine hK _ _ _ ?_; clear hE hK K E
   exact ⟨⟨rfl, ⟨s2, by exact Er, fun x hx hne => by refine Evf @hne ?_; exact ho x hx hne, by exact Ecf @e0⟩, by exact Ecf @e1, by exact Ecf @e2, by exact Ecf @e3, by exact Ecf @e4, by exact Ecf @e10, by exact Ecf @e11⟩, by exact Ecf @e12, by exact Erf @x2, by exact Erf @x3⟩
  ·have hdec' : ¬ ((hintN D.c.2 : Nat) : Int) = 2 := fun q => hdec ((hintN_two _).1 (by omega))
   obtain ⟨x1, x2, x3⟩ := qn hdec
   rw [x1, x2, x3]
   refine Rkf @hdec' ?_
   refine Bf ?_
   refine AWP.skip ?_
   exact ⟨⟨rfl, ⟨hs, hb, ho, by exact Ecf @e0⟩, by exact Ecf @e1, by exact Ecf @e2, by exact Ecf @e3, by exact Ecf @e4, by exact Ecf @e10, by exact Ecf @e11⟩, by exact Ecf @e12, by exact Er, by exact Er⟩
 clear hb ho e0 e1 e2 e3 e4 e10 e11 hs e12 k1 qc qd qn
 rintro ⟨t, hh, n⟩ ⟨⟨hn0, ⟨hs, hb, ho, e0⟩, e1, e2, e3, e4, e10, e11⟩, e12, e13, e14⟩
 simp only at hn0 hb ho e0 e1 e2 e3 e4 e10 e11 e12 e13 e14
 subst hn0
 refine AWP.mid (fun st => D.pi.2 = false ∧ QAt h b id ver cap N T D.pi.1 a e D.lim g wb wp st ∧ st.t 12 = IntV (e - a : Nat) ∧ st.t 13 = IntV D.pivot) ?_ ?_
 ·have yes : (wb && wp && decide (D.hint = .increasing)) = true → ∀ (t : Nat → AV), t 0 = winQ id ver cap N → t 1 = IntV a → t 2 = IntV e → t 3 = IntV D.lim → t 4 = cloV g → t 10 = BoolV wb → t 11 = BoolV wp → t 12 = IntV (e - a : Nat) → t 13 = IntV D.pivot → t 75 = BoolV true →
    AWP Tryz.prog ⟨Tryz.f117.ntmps, b, ι, h, w, x0⟩ (.skip) (fun _ _ => True) ⟨t, hh, 0⟩ := fun _ _ _ _ _ _ _ _ _ _ _ _ => AWP.skip trivial
  clear yes
  by_cases hh68 : (wb && wp && decide (D.hint = .increasing)) = true
  ·have x1 := qy hh68
   simp only [Bool.and_eq_true, decide_eq_true_eq] at hh68
   obtain ⟨⟨rfl, rfl⟩, hinc⟩ := hh68
   have hinc' : ((hintN D.hint : Nat) : Int) = 1 := by rw [(hintN_one _).2 hinc]; rfl
   have k2 := partialIns_ok cm (b := b + 0) (cap := cap) (kk hh D.d2 hs hb) hid a e (by omega) (by omega)
   rw [hs, ← x1] at k2
   refine Rkf (jn4 @e10 @e11 @e14 @hinc') ?_
   refine Bt ?_
   refine Rgf (jn4 @e0 @e1 @e2 @e4) (fun E K hE hK => ?_)
   refine Us k2 body_164 ?_
   refine hK _ _ _ ?_; clear hE hK K E
   cases hp2 : D.pi.2 with
   | true =>
     refine Btf @hp2 ?_
     refine AWP.ret ?_
     refine Ev ?_
     exact fin _ _ (by exact Erf (rdone hp2)) (fun x hx hne => by refine Evf @hne ?_; exact ho x hx hne)
   | false =>
     refine Bff @hp2 ?_
     refine AWP.skip ?_
     exact ⟨rfl, ⟨rfl, ⟨s3, by exact Er, fun x hx hne => by refine Evf @hne ?_; exact ho x hx hne, by exact Ecf @e0⟩, by exact Ecf @e1, by exact Ecf @e2, by exact Ecf @e3, by exact Ecf @e4, by exact Ecf @e10, by exact Ecf @e11⟩, by exact Ecf @e12, by exact Ecf @e13⟩
  ·have x1 := qo (by simpa using hh68)
   rw [x1]
   have fin2 : ∀ (t : Nat → AV), t 0 = winQ id ver cap N → t 1 = IntV a → t 2 = IntV e → t 3 = IntV D.lim → t 4 = cloV g → t 10 = BoolV wb → t 11 = BoolV wp → t 12 = IntV (e - a : Nat) → t 13 = IntV D.pivot →
     (D.d2, false).2 = false ∧ QAt h b id ver cap N T (D.d2, false).1 a e D.lim g wb wp ⟨t, hh, 0⟩ ∧ t 12 = IntV (e - a : Nat) ∧ t 13 = IntV D.pivot := fun t a0 a1 a2 a3 a4 a10 a11 a12 a13 => ⟨rfl, ⟨rfl, ⟨hs, hb, ho, a0⟩, a1, a2, a3, a4, a10, a11⟩, a12, a13⟩
   have hinc' : wb = true → wp = true → ¬ ((hintN D.hint : Nat) : Int) = 1 := fun q1 q2 q => hh68 (by rw [q1, q2, (hintN_one D.hint).1 (by omega)]; rfl)
   cases wb with
   | false =>
     refine Rkf (jn3 @e10 @e11 @e14) ?_
     refine Bf ?_
     refine AWP.skip ?_
     exact fin2 _ (by exact Ecf @e0) (by exact Ecf @e1) (by exact Ecf @e2) (by exact Ecf @e3) (by exact Ecf @e4) (by exact Ecf @e10) (by exact Ecf @e11) (by exact Ecf @e12) (by exact Ecf @e13)
   | true =>
     cases wp with
     | false =>
       refine Rkf (jn3 @e10 @e11 @e14) ?_
       refine Bf ?_
       refine AWP.skip ?_
       exact fin2 _ (by exact Ecf @e0) (by exact Ecf @e1) (by exact Ecf @e2) (by exact Ecf @e3) (by exact Ecf @e4) (by exact Ecf @e10) (by exact Ecf @e11) (by exact Ecf @e12) (by exact Ecf @e13)
     | true =>
       have hi2 := hinc' rfl rfl
       refine Rkf (jn4 @e10 @e11 @e14 @hi2) ?_
       refine Bf ?_
       refine AWP.skip ?_
       exact fin2 _ (by exact Ecf @e0) (by exact Ecf @e1) (by exact Ecf @e2) (by exact Ecf @e3) (by exact Ecf @e4) (by exact Ecf @e10) (by exact Ecf @e11) (by exact Ecf @e12) (by exact Ecf @e13)
 clear hb ho e0 e1 e2 e3 e4 e10 e11 hs e12 e13 e14 qy qo rdone
 rintro ⟨t, hh, n⟩ ⟨hp2, ⟨hn0, ⟨hs, hb, ho, e0⟩, e1, e2, e3, e4, e10, e11⟩, e12, e13⟩
 simp only at hn0 hb ho e0 e1 e2 e3 e4 e10 e11 e12 e13
 subst hn0
 replace req := req hp2
 replace rleft := rleft hp2
 replace rright := rright hp2
 refine AWP.mid (fun st => (decide (a > 0) && !ltZ z D.pi.1[a - 1]! D.pi.1[D.pivot]!) = false ∧ QAt h b id ver cap N T D.pi.1 a e D.lim g wb wp st ∧ st.t 12 = IntV (e - a : Nat) ∧ st.t 13 = IntV D.pivot) ?_ ?_
 ·by_cases ha0 : a > 0
  ·have ha0' : (0 : Int) < (a : Int) := by omega
   have w2 := w_sub1 (a := a) (by omega) (by omega)
   rw [← hs] at e0
   obtain ⟨d, hd⟩ : ∃ d, d = D.pi.1 := ⟨_, rfl⟩
   obtain ⟨pv, hpvd⟩ : ∃ pv, pv = D.pivot := ⟨_, rfl⟩
   rw [← hd] at hb hs e0 req B3
   rw [← hpvd] at e13 hpv req
   have la : (a - 1) < d.size := by omega
   have lb : pv < d.size := by omega
   have la' : (((a - 1) : Nat) : Int) < d.size := by omega
   have lb' : ((pv : Nat) : Int) < d.size := by omega
   have hpa := celQ_get d T (a - 1) la
   have hpb := celQ_get d T pv lb
   have hb' : hh id = some ⟨ver, celQ d T⟩ := hb
   have hlL := celQ_len d T
   obtain ⟨vx, hvx⟩ : ∃ v, d[(a - 1)]! = v := ⟨_, rfl⟩
   obtain ⟨vy, hvy⟩ : ∃ v, d[pv]! = v := ⟨_, rfl⟩
   rw [hvx] at hpa
   rw [hvy] at hpb
   generalize celQ d T = L1 at hpa hpb hb' hlL
   refine AWP.seqRegDG [] [] [] mixed (drawF_ok (by kernel_rfl)) (by kernel_rfl) (fun K hK => ?_); simp -implicitDefEqProofs only [go_sem, ↓reduceIte, Nat.reduceEqDiff, Nat.reduceAdd, Nat.reduceLT, Nat.reduceLeDiff, reduceCtorEq, Int.toNat_natCast, e0, e1, e4, e13, ha0', w2, hb', hpa, hpb, la', lb']
   repeat (first | (refine Gdf 83 (jn5 @e0 @e1 @e4 @e13 (jn7 @ha0' @w2 @hb' @hpa @hpb @la' @lb')) ?_) | (refine ⟨by omega, ?_⟩))
   refine Ud (cm.calls vx vy _ _) cm.body ?_
   by_cases hz1 : z vx vy < 0
   ·repeat (first | (refine Gdf 83 @hz1 ?_) | (refine ⟨by omega, ?_⟩))
    refine hK _ _ _ ?_; clear hK K
    refine Bf ?_
    refine AWP.skip ?_
    subst hd
    subst hpvd
    exact ⟨by rw [hvx, hvy]; simp [hz1], ⟨rfl, ⟨hs, hb, ho, by exact Ecf (jn2 @e0 @hs)⟩, by exact Ecf @e1, by exact Ecf @e2, by exact Ecf @e3, by exact Ecf @e4, by exact Ecf @e10, by exact Ecf @e11⟩, by exact Ecf @e12, by exact Ecf @e13⟩
   ·repeat (first | (refine Gdf 83 @hz1 ?_) | (refine ⟨by omega, ?_⟩))
    have hcond : (decide (a > 0) && !ltZ z d[a - 1]! d[pv]!) = true := by rw [hvx, hvy]; simp [hz1, ha0]
    have hnl : ltZ z d[a - 1]! d[pv]! = false := by rw [hvx, hvy]; simp [hz1]
    obtain ⟨mid, d4, hx⟩ : ∃ mid d4, Sort.partitionEqual (ltZ z) d a e pv = (mid, d4) := ⟨_, _, rfl⟩
    obtain ⟨r1, r2, r3, r4, _⟩ := Sort.round_eq hO (Sort.partitionEqual_holds (ltZ z)) ha0 hpv.1 hpv.2 (show e ≤ d.size by omega) B3 hnl hx
    have k2 := partitionEqual_ok cm (b := b + 0) (cap := cap) (kk hh d hs hb) hid a e pv hpv.1 hpv.2 (by omega)
    replace req := req hcond
    rw [hx] at k2 req
    replace req := req ⟨r1, r2⟩
    rw [hs] at k2
    rw [hs] at e0
    refine hK _ _ _ ?_; clear hK K
    refine Bt ?_
    clear hpa hpb hlL hb' hvx hvy
    refine Rgf (jn5 @e0 @e1 @e2 @e4 @e13) (fun E K hE hK => ?_)
    refine Us k2 body_165 ?_
    refine hK _ _ _ ?_; clear hE hK K E
    refine Rk ?_
    refine AWP.exit ?_
    refine Ev ?_
    exact ⟨e - mid, by omega, mid, e, D.lim, wb, wp, d4, rfl, by omega, r2, he, by omega, r4, req.symm, QAt.cut hid hT hlow _ rfl ⟨rfl, ⟨by rw [r3, hs], by exact Er, fun x hx hne => by refine Evf @hne ?_; exact ho x hx hne, by exact Ecf @e0⟩, by exact Er, by exact Ecf @e2, by exact Ecf @e3, by exact Ecf @e4, by exact Ecf @e10, by exact Ecf @e11⟩⟩
  ·have ha0' : ¬ (0 : Int) < (a : Int) := by omega
   refine AWP.seqRegDG [] [] [] mixed (drawF_ok (by kernel_rfl)) (by kernel_rfl) (fun K hK => ?_); simp -implicitDefEqProofs only [go_sem, ↓reduceIte, Nat.reduceEqDiff, Nat.reduceAdd, Nat.reduceLT, Nat.reduceLeDiff, reduceCtorEq, Int.toNat_natCast, e0, e1, e4, e13, ha0']
   repeat (first | (refine Gdf 83 @ha0' ?_) | (refine ⟨by omega, ?_⟩))
   refine hK _ _ _ ?_; clear hK K
   refine Bf ?_
   refine AWP.skip ?_
   exact ⟨by simp [ha0], ⟨rfl, ⟨hs, hb, ho, by exact Ecf @e0⟩, by exact Ecf @e1, by exact Ecf @e2, by exact Ecf @e3, by exact Ecf @e4, by exact Ecf @e10, by exact Ecf @e11⟩, by exact Ecf @e12, by exact Ecf @e13⟩
 clear hb ho e0 e1 e2 e3 e4 e10 e11 hs e12 e13 req
 rintro ⟨t, hh, n⟩ ⟨hcond, ⟨hn0, ⟨hs, hb, ho, e0⟩, e1, e2, e3, e4, e10, e11⟩, e12, e13⟩
 simp only at hn0 hb ho e0 e1 e2 e3 e4 e10 e11 e12 e13
 subst hn0
 replace rleft := rleft hcond
 replace rright := rright hcond
 obtain ⟨mid, ap, d4, hx⟩ : ∃ mid ap d4, Sort.partition (ltZ z) D.pi.1 a e D.pivot = (mid, ap, d4) := ⟨_, _, _, rfl⟩
 obtain ⟨r1, r2, r3, r4, r5, r6, r7⟩ := Sort.round_part hO (Sort.partition_holds (ltZ z)) hpv.1 hpv.2 (show e ≤ D.pi.1.size by omega) B3 hx
 have k2 := partition_ok cm (b := b + 0) (cap := cap) (kk hh D.pi.1 hs hb) hid a e D.pivot hpv.1 hpv.2 (by omega)
 rw [hx] at k2 rleft rright
 rw [hs] at k2 r3
 replace rleft := rleft ⟨r1, r2⟩
 replace rright := rright ⟨r1, r2⟩
 have w2 := w_sub (a := mid) (c := a) r1 (by omega)
 have w3 := w_sub (a := e) (c := mid) (by omega) (by omega)
 have w4 := w_quo8 (a := e - a) (by omega)
 have w5 := w_add1 (a := mid) (by omega)
 have h80 : ¬ (8 : Int) = 0 := by decide
 cases ap
 all_goals
  refine Rgf (jn5 @e0 @e1 @e2 @e4 @e13) (fun E K hE hK => ?_)
  refine Us k2 body_166 ?_
  refine hK _ _ _ ?_; clear hE hK K E
  refine Rk ?_
  refine Rkf (jn4 @e1 @e2 @w2 @w3) ?_
  refine Rkf (jn3 @e12 @w4 @h80) ?_
  by_cases h4 : mid - a < e - mid
  ·have h4' : ((mid - a : Nat) : Int) < ((e - mid : Nat) : Int) := by omega
   replace rleft := rleft h4
   have hih := ih (mid - a) (by omega) (b := b + 0) (cap := cap) (kk (upd hh id (rowQ ver d4 T)) d4 r3 (upd_same _ _ _)) hid a mid D.lim (Nat.le_refl _) r1 (by omega) (by omega) r4
   obtain ⟨pL, sL⟩ := Sort.pdq_sorts (ltZ z) hO d4 a mid D.lim true true r1 (by omega) r4
   obtain ⟨x1, x2⟩ := r6 _ pL sL
   have hsz : (Sort.pdq (ltZ z) d4 a mid D.lim true true).size = N := by rw [pL.1, r3]
   rw [r3] at hih
   clear pL sL r6 r7 rright x2
   obtain ⟨dL, hdL⟩ : ∃ dL, Sort.pdq (ltZ z) d4 a mid D.lim true true = dL := ⟨_, rfl⟩
   rw [hdL] at hih rleft x1 hsz
   refine Rkf @h4' ?_
   refine Bt ?_
   have hq : ∀ v : Bool, decide (mid - a ≥ (e - a) / 8) = v → (decide (((mid - a : Nat) : Int) ≥ (((e - a) / 8 : Nat) : Int)) = v) := fun v q => by rw [← q]; exact decide_eq_decide.2 ⟨fun q => by omega, fun q => by omega⟩
   obtain ⟨v8, hv8⟩ : ∃ v, decide (mid - a ≥ (e - a) / 8) = v := ⟨_, rfl⟩
   have hv8' := hq v8 hv8
   rw [hv8] at rleft
   clear hq hv8
   cases v8
   all_goals
    refine Rkf @hv8' ?_
    refine Rgf (jn4 @e0 @e1 @e3 @e4) (fun E K hE hK => ?_)
    refine Us hih body_117 ?_
    refine hK _ _ _ ?_; clear hE hK K E
    refine Raf @w5 (fun E K hE hK => ?_); refine hK _ _ _ ?_; clear hE hK K E
    exact ⟨e - (mid + 1), by omega, mid + 1, e, D.lim, _, _, dL, rfl, by omega, by omega, he, by omega, x1, rleft.symm, QAt.cut hid hT hlow _ rfl ⟨rfl, ⟨hsz, by exact Er, fun x hx hne => by refine Evf @hne ?_; exact ho x hx hne, by exact Ecf @e0⟩, by exact Er, by exact Ecf @e2, by exact Ecf @e3, by exact Ecf @e4, by exact Erf @hv8', by exact Er⟩⟩
  ·have h4' : ¬ ((mid - a : Nat) : Int) < ((e - mid : Nat) : Int) := by omega
   replace rright := rright h4
   have hih := ih (e - (mid + 1)) (by omega) (b := b + 0) (cap := cap) (kk (upd hh id (rowQ ver d4 T)) d4 r3 (upd_same _ _ _)) hid (mid + 1) e D.lim (Nat.le_refl _) (by omega) (by omega) (by omega) r5
   obtain ⟨pL, sL⟩ := Sort.pdq_sorts (ltZ z) hO d4 (mid + 1) e D.lim true true (by omega) (by omega) r5
   obtain ⟨x1, x2⟩ := r7 _ pL sL
   have hsz : (Sort.pdq (ltZ z) d4 (mid + 1) e D.lim true true).size = N := by rw [pL.1, r3]
   rw [r3] at hih
   clear pL sL r6 r7 rleft x2
   obtain ⟨dL, hdL⟩ : ∃ dL, Sort.pdq (ltZ z) d4 (mid + 1) e D.lim true true = dL := ⟨_, rfl⟩
   rw [hdL] at hih rright x1 hsz
   refine Rkf @h4' ?_
   refine Bf ?_
   have hq : ∀ v : Bool, decide (e - mid ≥ (e - a) / 8) = v → (decide (((e - mid : Nat) : Int) ≥ (((e - a) / 8 : Nat) : Int)) = v) := fun v q => by rw [← q]; exact decide_eq_decide.2 ⟨fun q => by omega, fun q => by omega⟩
   obtain ⟨v8, hv8⟩ : ∃ v, decide (e - mid ≥ (e - a) / 8) = v := ⟨_, rfl⟩
   have hv8' := hq v8 hv8
   rw [hv8] at rright
   clear hq hv8
   cases v8
   all_goals
    refine Rkf @hv8' ?_
    refine Rgf (jn5 @e0 @e2 @e3 @e4 @w5) (fun E K hE hK => ?_)
    refine Us hih body_117 ?_
    refine hK _ _ _ ?_; clear hE hK K E
    refine Ra (fun E K hE hK => ?_); refine hK _ _ _ ?_; clear hE hK K E
    exact ⟨mid - a, by omega, a, mid, D.lim, _, _, dL, rfl, by omega, r1, by omega, by omega, x1, rright.symm, QAt.cut hid hT hlow _ rfl ⟨rfl, ⟨hsz, by exact Er, fun x hx hne => by refine Evf @hne ?_; exact ho x hx hne, by exact Ecf @e0⟩, by exact Ecf @e1, by exact Er, by exact Ecf @e3, by exact Ecf @e4, by exact Erf @hv8', by exact Er⟩⟩
def srtQ (z : El → El → Int) (d : Array El) : Array El := Sort.pdq (ltZ z) d 0 d.size (Sort.bitsLen d.size) true true
theorem srtQ_perm {z : El → El → Int} (hO : Sort.SWO (ltZ z)) (d : Array El) : (srtQ z d).toList.Perm d.toList := by
 obtain ⟨h1, _⟩ := Sort.pdq_sorts (ltZ z) hO d 0 d.size (Sort.bitsLen d.size) true true (Nat.zero_le _) (Nat.le_refl _) (Or.inl rfl)
 have h2 := h1.2.2
 have e1 : d.extract 0 d.size = d := by simp
 have e2 : (srtQ z d).extract 0 d.size = srtQ z d := by
  have : (srtQ z d).size = d.size := h1.1
  rw [← this]; simp
 rw [e1] at h2
 unfold srtQ at e2 ⊢
 rwa [e2] at h2
theorem srtQ_size {z : El → El → Int} (hO : Sort.SWO (ltZ z)) (d : Array El) : (srtQ z d).size = d.size := by
 have := (srtQ_perm hO d).length_eq
 simpa using this
theorem srtQ_sorted {z : El → El → Int} (hO : Sort.SWO (ltZ z)) (d : Array El) : (srtQ z d).toList.Pairwise (fun x y => ¬ z y x < 0) := by
 obtain ⟨h1, h2⟩ := Sort.pdq_sorts (ltZ z) hO d 0 d.size (Sort.bitsLen d.size) true true (Nat.zero_le _) (Nat.le_refl _) (Or.inl rfl)
 have hs := srtQ_size hO d
 rw [List.pairwise_iff_getElem]
 intro i j hi hj hij
 rw [Array.length_toList] at hi hj
 have := h2 i j (Nat.zero_le _) hij (by rw [← hs]; exact hj)
 have hi' : i < (Sort.pdq (ltZ z) d 0 d.size (Sort.bitsLen d.size) true true).size := hi
 have hj' : j < (Sort.pdq (ltZ z) d 0 d.size (Sort.bitsLen d.size) true true).size := hj
 rw [getElem!_pos _ i hi', getElem!_pos _ j hj'] at this
 simp only [decide_eq_false_iff_not] at this
 simpa [srtQ] using this
theorem sortFunc_ok {g : FuncId} {z : El → El → Int} (cm : CmpQ g z) (hO : Sort.SWO (ltZ z)) {h : Heap} {b id ver cap : Nat} {d : Array El} {T : List Cell} (k : PdAt h id ver d T) (hid : id < b) :
  ACalls Tryz.prog 64 [winQ id ver cap d.size, cloV g] h b 0 (fun r h' => r = .tup [] ∧ h' = upd h id (rowQ ver (srtQ z d) T)) := by
 refine ACalls.enter Tryz.func64 rfl (by simp [Tryz.ntmps64]) (fun ι w hn H => ?_)
 have hz := k.size
 have hrow := k.row
 have hu : IntKind.u64.wrap (d.size : Int) = (d.size : Int) := by rw [w_u64, Nat.mod_eq_of_lt (by omega)]
 have hk : Sort.bitsLen d.size ≤ 62 := (Sort.bitsLen_le_iff d.size 62).2 (by omega)
 have k1 := bitsLen_ok d.size (by omega) h b
 have k2 := pdqsort_ok cm hO d.size (b := b + 0) (cap := cap) k hid 0 d.size (Sort.bitsLen d.size) (by omega) (by omega) (by omega) (by omega) (Or.inl rfl)
 rw [show ((0 : Nat) : Int) = 0 from rfl] at k2
 have hT := k.low
 refine Rkf @hrow ?_
 refine Raf @hu (fun E K hE hK => ?_)
 refine Us k1 body_118 ?_
 refine Us k2 body_117 ?_
 refine hK _ _ _ ?_; clear hE hK K E
 exact RwAt.ends (C := ⟨_, b, ι, h, w, x0⟩) (d := srtQ z d) hid hT hn H (by exact Er) (fun x hx hne => by exact Ecf @hne) rfl (frz_tup0 _ _) ⟨rfl, rfl⟩
end Go.Proofs.YtihgnpboabpchaaGreatDoor.PdSt
namespace Go.Proofs.YtihgnpboabpchaaGreatDoor
set_option linter.unusedSimpArgs false
set_option linter.unusedVariables false
set_option linter.unnecessarySimpa false
open Go Am
structure Ac where
 who : Int
 kind : Int
 p : S
 q : S
 rank : Nat
 data : S
abbrev nmS (s : S) : S := s
def okA (a : Ac) : Prop := 0 ≤ a.who ∧ a.who < 64 ∧ 1 ≤ a.kind ∧ a.kind ≤ 11
theorem chk_ne {p : S} (h : chkN p = 0) : p ≠ [] := fun e => by subst e; exact absurd h (by decide)
theorem rise_of : ∀ {l : List S} {q : Option S}, Ris nmS l → (∀ x ∈ l, chkN x = 0) → (∀ a, q = some a → chkN a = 0 ∧ ∀ x ∈ l, cmpF a x < 0) → riseF q l = true
 | [], q, _, _, _ => by cases q <;> rfl
 | p :: ps, q, h, hc, hq => by
   obtain ⟨h1, h2⟩ := Ris.cons.1 h
   have hp := hc p List.mem_cons_self
   have ih := rise_of (q := some p) h2 (fun x hx => hc x (List.mem_cons_of_mem _ hx)) (fun a ha => by injection ha with ha; subst ha; exact ⟨hp, h1⟩)
   unfold riseF
   rw [ih, hp]
   cases q with
   | none => rfl
   | some a =>
     obtain ⟨ha, hlt⟩ := hq a rfl
     have h3 := hlt p List.mem_cons_self
     rw [cmpF_clean (chk_ne ha) (chk_ne hp)] at h3
     have e : cmpN a p = (cK a p, 0) := cmpN_ok (chkN_zero.1 ha) (chkN_zero.1 hp)
     simp only [e, decide_true, decide_eq_true h3, Bool.and_self]
structure StOK (k : Nat → Int) (s : Sg) : Prop where
 gen : s.gen ≤ 1099511627776
 t : checkT s.t = 0
 ris : Ris nmE s.ed
 len : s.ed.length ≤ 256
 may : ∀ x ∈ s.ed, mayE k s.t x = true
 nris : Ris nmQ s.names
 nchk : ∀ x ∈ s.names, chkN x = 0
 nlen : s.names.length ≤ 1024
 dlen : s.dirs.length ≤ 1024
 dris : risesX (dirsX s.dirs) 1024 = true
theorem mayE_chk {k : Nat → Int} {t : List Fl} {x : Ed} (h : mayE k t x = true) : chkN x.name = 0 := by
 unfold mayE at h
 simp only [Bool.and_eq_true, decide_eq_true_eq] at h
 exact h.1
theorem mayE_data {k : Nat → Int} {t : List Fl} {x : Ed} (h : mayE k t x = true) : x.data.length ≤ 65536 := by
 unfold mayE at h
 simp only [Bool.and_eq_true, decide_eq_true_eq] at h
 obtain ⟨_, h⟩ := h
 split at h
 ·simp only [Bool.and_eq_true, decide_eq_true_eq] at h
  rw [h.2.2]; simp
 ·split at h
  ·simpa using h
  ·simp only [Bool.and_eq_true, decide_eq_true_eq] at h
   omega
theorem mayE_name {k : Nat → Int} {t : List Fl} {x : Ed} {q : S} (h : mayE k t x = true) (hq : chkN q = 0) : mayE k t { x with name := q } = true := by
 unfold mayE at h ⊢
 simp only [Bool.and_eq_true, decide_eq_true_eq] at h ⊢
 exact ⟨hq, h.2⟩
theorem mayE_gone {k : Nat → Int} {t : List Fl} {p : S} (hp : chkN p = 0) : mayE k t (goneE p) = true := by
 unfold mayE goneE
 simp [hp]
theorem mayE_new {k : Nat → Int} {t : List Fl} {p d : S} {r : Nat} (hp : chkN p = 0) (hd : d.length ≤ 65536) : mayE k t ⟨p, false, r, [], d⟩ = true := by
 unfold mayE
 simp [hp, hd]
theorem mayE_what {k : Nat → Int} {s : Sg} {p : S} (o : StOK k s) (hp : chkN p = 0) : mayE k s.t (whatS s p) = true := by
 unfold whatS
 split
 ·rename_i x hx
  exact o.may x (getK_mem hx).1
 ·split
  ·rename_i f hf
   unfold mayE
   simp [hp, chk_ne hp, hf]
  ·exact mayE_gone hp
theorem ckE_iff {k : Nat → Int} {t : List Fl} : ∀ {l : List Ed} {q : Option S}, ckE k t q l = true ↔ (∀ x ∈ l, mayE k t x = true) ∧ Ris nmE l ∧ ∀ p, q = some p → ∀ x ∈ l, cmpF p x.name < 0
 | [], q => by unfold ckE; simp [Ris.nil]
 | x :: l, q => by
   unfold ckE
   rw [Bool.and_eq_true, Bool.and_eq_true, ckE_iff (l := l)]
   constructor
   ·rintro ⟨h1, h2, h3, h4, h5⟩
    have h6 := h5 _ rfl
    refine ⟨fun y hy => ?_, Ris.cons.2 ⟨h6, h4⟩, fun p hp y hy => ?_⟩
    ·rcases List.mem_cons.1 hy with rfl | hy
     ·exact h1
     ·exact h3 y hy
    ·subst hp
     have h2 : cmpF p x.name < 0 := by simpa using h2
     rcases List.mem_cons.1 hy with rfl | hy
     ·exact h2
     ·exact cmpF_tr h2 (h6 y hy)
   ·rintro ⟨h1, h2, h3⟩
    obtain ⟨h4, h5⟩ := Ris.cons.1 h2
    refine ⟨h1 x List.mem_cons_self, ?_, fun y hy => h1 y (List.mem_cons_of_mem _ hy), h5, fun p hp y hy => ?_⟩
    ·cases q with
     | none => rfl
     | some p => exact decide_eq_true (h3 p rfl x List.mem_cons_self)
    ·injection hp with hp; subst hp
     exact h4 y hy
theorem rise_ris : ∀ {l : List S} {q : Option S}, riseF q l = true → Ris nmQ l ∧ ∀ p, q = some p → ∀ x ∈ l, cmpF p x < 0
 | [], q, _ => ⟨Ris.nil, fun p _ x hx => by simp at hx⟩
 | a :: l, q, h => by
   unfold riseF at h
   rw [Bool.and_eq_true, Bool.and_eq_true, decide_eq_true_eq] at h
   obtain ⟨h1, h2, h3⟩ := h
   obtain ⟨h4, h5⟩ := rise_ris (l := l) h3
   have h6 := h5 _ rfl
   refine ⟨Ris.cons.2 ⟨h6, h4⟩, fun p hp y hy => ?_⟩
   subst hp
   rw [Bool.and_eq_true, decide_eq_true_eq, decide_eq_true_eq] at h2
   obtain ⟨c1, c2⟩ := cmpN_bad h2.1
   have e := h2.2
   rw [cmpN_ok c1 c2] at e
   have h7 : cmpF p a < 0 := by rw [cmpF_clean (chk_ne (chkN_zero.2 c1)) (chk_ne (chkN_zero.2 c2))]; exact e
   rcases List.mem_cons.1 hy with rfl | hy
   ·exact h7
   ·exact cmpF_tr h7 (h6 y hy)
theorem check_iff {k : Nat → Int} {s : Sg} : checkS k s = 0 ↔ StOK k s := by
 unfold checkS
 constructor
 ·intro h
  split at h
  ·exact absurd h (by decide)
  ·rename_i hn
   split at h
   ·rename_i hk
    obtain ⟨k1, k2, _⟩ := ckE_iff.1 hk
    have m : mayX s.names s.dirs = 0 := Decidable.byContradiction fun e => hn (.inr (.inr (.inl e)))
    unfold mayX at m
    split at m
    ·rename_i hm
     obtain ⟨m1, m2, m3⟩ := hm
     unfold risesX at m2
     rw [Bool.and_eq_true, decide_eq_true_eq] at m2
     exact ⟨Int.not_lt.1 fun e => hn (.inl e), Decidable.byContradiction fun e => hn (.inr (.inl e)), k2, Nat.not_lt.1 fun e => hn (.inr (.inr (.inr e))), k1, (rise_ris m2.1).1, riseF_mem m2.1, m2.2, m1, m3⟩
    ·exact absurd m (by decide)
   ·exact absurd h (by decide)
 ·intro o
  have m : mayX s.names s.dirs = 0 := by
   unfold mayX
   rw [if_pos ⟨o.dlen, by unfold risesX; rw [rise_of o.nris o.nchk (fun a e => by cases e), decide_eq_true o.nlen]; rfl, o.dris⟩]
  rw [if_neg (by rw [o.t, m]; have := o.gen; have := o.len; omega), if_pos (ckE_iff.2 ⟨o.may, o.ris, fun p e => by cases e⟩)]
theorem StOK.read {k : Nat → Int} {s : Sg} {e : Int} {p : S} (o : StOK k s) (hp : chkN p = 0) : StOK k (readS s e p).1 := by
 unfold readS
 split
 ·exact o
 ·rename_i h1
  split
  ·exact o
  ·rename_i h2
   refine ⟨o.gen, o.t, o.ris, o.len, o.may, o.nris.set (fun x hx => by injection hx with hx; exact hx.symm), fun x hx => ?_, ?_, o.dlen, o.dris⟩
   ·rcases set_mem.1 hx with e | e
    ·injection e with e; rw [← e]; exact hp
    ·exact o.nchk x e.1
   ·have := set_len (nm := nmQ) (p := p) (k := some p) (l := s.names)
    have h3 := o.nlen
    show (setK nmQ p (some p) s.names).length ≤ 1024
    omega
theorem edit_len {s : Sg} {e : Int} {x : Ed} (h : Ris nmE s.ed) : (setK nmE x.name (some x) s.ed).length = s.ed.length + if (getK nmE x.name s.ed).isSome = true then 0 else 1 := by
 have := congrArg List.length (splitK (nm := nmE) (p := x.name) h)
 conv => rhs; rw [this]
 unfold setK
 cases getK nmE x.name s.ed <;> simp <;> omega
theorem StOK.edit {k : Nat → Int} {s : Sg} {e : Int} {x : Ed} (o : StOK k s) (hx : mayE k s.t x = true) : StOK k (editS s e x).1 := by
 unfold editS
 split
 ·exact o
 ·split
  ·rename_i h2
   refine ⟨o.gen, o.t, o.ris.set (fun y hy => by injection hy with hy; rw [← hy]), ?_, fun y hy => ?_, o.nris, o.nchk, o.nlen, o.dlen, o.dris⟩
   ·show (setK nmE x.name (some x) s.ed).length ≤ 256
    have := edit_len (e := 0) (x := x) o.ris
    have h3 := o.len
    rw [this]
    split
    ·omega
    ·rename_i h4
     rcases h2 with h2 | h2
     ·exact absurd h2 h4
     ·omega
   ·rcases set_mem.1 hy with e | e
    ·injection e with e; rw [← e]; exact hx
    ·exact o.may y e.1
  ·exact o
theorem read_same {s : Sg} {e : Int} {p : S} : (readS s e p).1.ed = s.ed ∧ (readS s e p).1.t = s.t ∧ (readS s e p).1.gen = s.gen ∧ (readS s e p).1.dirs = s.dirs := by
 unfold readS
 split
 ·exact ⟨rfl, rfl, rfl, rfl⟩
 ·split <;> exact ⟨rfl, rfl, rfl, rfl⟩
theorem read_stuck {s : Sg} {e : Int} {p : S} (h : e ≠ 0) : readS s e p = (s, e) := by unfold readS; rw [if_pos (.inr h)]
theorem read_keep {s : Sg} {e : Int} {p q : S} (o : Ris nmQ s.names) (h : (getK nmQ q s.names).isSome = true) : (getK nmQ q (readS s e p).1.names).isSome = true := by
 unfold readS
 split
 ·exact h
 ·split
  ·exact h
  ·show (getK nmQ q (setK nmQ p (some p) s.names)).isSome = true
   rw [get_set o (fun x hx => by injection hx with hx; exact hx.symm)]
   split
   ·rfl
   ·exact h
theorem read_in {s : Sg} {p : S} (o : Ris nmQ s.names) (h : (readS s 0 p).2 = 0) : (getK nmQ p (readS s 0 p).1.names).isSome = true := by
 unfold readS at h ⊢
 split at h
 ·rename_i h1
  rw [if_pos h1]
  rcases h1 with h1 | h1
  ·exact h1
  ·exact absurd rfl h1
 ·rename_i h1
  rw [if_neg h1]
  split at h
  ·exact absurd h (show ¬ (6 : Int) = 0 by decide)
  ·rename_i h2
   rw [if_neg h2]
   show (getK nmQ p (setK nmQ p (some p) s.names)).isSome = true
   rw [get_set o (fun x hx => by injection hx with hx; exact hx.symm), if_pos rfl]; rfl
theorem edit_stuck {s : Sg} {e : Int} {x : Ed} (h : e ≠ 0) : editS s e x = (s, e) := by unfold editS; rw [if_pos h]
theorem what_of {s s' : Sg} {p : S} (e : s'.ed = s.ed) (e2 : s'.t = s.t) : whatS s' p = whatS s p := by unfold whatS; rw [e, e2]
theorem start_one {k : Nat → Int} {s : Sg} {p : S} : startS k s [p] = 0 ↔ StOK k s ∧ chkN p = 0 := by
 unfold startS
 simp only [List.foldl_cons, List.foldl_nil]
 rw [← check_iff (k := k)]
 constructor
 ·intro h
  split at h
  ·rename_i h1; exact ⟨h1, h⟩
  ·rename_i h1; exact absurd h h1
 ·rintro ⟨h1, h2⟩; rw [if_pos h1]; exact h2
theorem start_two {k : Nat → Int} {s : Sg} {p q : S} : startS k s [p, q] = 0 ↔ StOK k s ∧ chkN p = 0 ∧ chkN q = 0 := by
 unfold startS
 simp only [List.foldl_cons, List.foldl_nil]
 rw [← check_iff (k := k)]
 constructor
 ·intro h
  by_cases c : checkS k s = 0
  ·rw [if_pos c] at h
   by_cases c2 : chkN p = 0
   ·rw [if_pos c2] at h; exact ⟨c, c2, h⟩
   ·rw [if_neg c2] at h; exact absurd h c2
  ·rw [if_neg c, if_neg c] at h; exact absurd h c
 ·rintro ⟨h1, h2, h3⟩; rw [if_pos h1, if_pos h2]; exact h3
abbrev readT (s : Sg) (p q : S) : Sg × Int := readS (readS s 0 p).1 (readS s 0 p).2 q
structure RdOK (k : Nat → Int) (s s1 : Sg) (p q : S) : Prop where
 ok : StOK k s1
 ed : s1.ed = s.ed
 t : s1.t = s.t
 hp : (getK nmQ p s1.names).isSome = true
 hq : (getK nmQ q s1.names).isSome = true
theorem readT_ok {k : Nat → Int} {s : Sg} {p q : S} (o : StOK k s) (hp : chkN p = 0) (hq : chkN q = 0) (h : (readT s p q).2 = 0) : RdOK k s (readT s p q).1 p q := by
 have h1 : (readS s 0 p).2 = 0 := Decidable.byContradiction fun e => by
  unfold readT at h
  rw [read_stuck e] at h
  exact e h
 have o1 := o.read (e := 0) hp
 obtain ⟨a1, a2, _, _⟩ := read_same (s := s) (e := 0) (p := p)
 have i1 := read_in o.nris h1
 unfold readT at h ⊢
 rw [h1] at h ⊢
 obtain ⟨b1, b2, _, _⟩ := read_same (s := (readS s 0 p).1) (e := 0) (p := q)
 exact ⟨o1.read hq, b1.trans a1, b2.trans a2, read_keep o1.nris i1, read_in o1.nris h⟩
theorem mov_inv {k : Nat → Int} {s m : Sg} {p q : S} {how : Int} (h : movS k s p q = (how, m, 0)) : StOK k s ∧ chkN p = 0 ∧ chkN q = 0 ∧ RdOK k s (readT s p q).1 p q ∧ moveS (readT s p q).1 p q = (how, m, 0) := by
 unfold movS at h
 split at h
 ·rename_i h1
  injection h with _ h; injection h with _ h
  exact absurd h h1
 ·rename_i h1
  obtain ⟨o, hp, hq⟩ := start_two.1 (Decidable.not_not.1 h1)
  simp only at h
  split at h
  ·rename_i h2
   injection h with _ h; injection h with _ h
   exact absurd h h2
  ·rename_i h2
   have h2' : (readT s p q).2 = 0 := Decidable.not_not.1 h2
   split at h
   ·rename_i h3
    injection h with _ h; injection h with _ h
    exact absurd h h3
   ·rename_i h3
    injection h with e1 h; injection h with e2 _
    refine ⟨o, hp, hq, readT_ok o hp hq h2', ?_⟩
    exact Prod.ext e1 (Prod.ext e2 (Decidable.not_not.1 h3))
theorem StOK.move {k : Nat → Int} {s : Sg} {p q : S} (o : StOK k s) (hp : chkN p = 0) (hq : chkN q = 0) : StOK k (moveS s p q).2.1 := by
 unfold moveS
 split
 ·exact o
 ·split
  ·exact o
  ·split
   ·exact o
   ·have o1 : StOK k (editS s 0 { whatS s p with name := q }).1 := o.edit (mayE_name (mayE_what o hp) hq)
    exact o1.edit (mayE_gone hp)
theorem mov_ok {k : Nat → Int} {s m : Sg} {p q : S} {how : Int} (h : movS k s p q = (how, m, 0)) : StOK k m := by
 obtain ⟨_, hp, hq, r, e⟩ := mov_inv h
 have := r.ok.move (p := p) (q := q) hp hq
 rw [e] at this
 exact this
theorem see_inv {k : Nat → Int} {s m : Sg} {p : S} {x : Ed} (h : seeS k s p = (x, m, 0)) : StOK k s ∧ chkN p = 0 ∧ (readS s 0 p).2 = 0 ∧ x = whatS s p ∧ m = (readS s 0 p).1 := by
 unfold seeS at h
 split at h
 ·rename_i h1
  injection h with _ h; injection h with _ h
  exact absurd h h1
 ·rename_i h1
  obtain ⟨o, hp⟩ := start_one.1 (Decidable.not_not.1 h1)
  simp only at h
  split at h
  ·rename_i h2
   injection h with _ h; injection h with _ h
   exact absurd h h2
  ·rename_i h2
   injection h with e1 h; injection h with e2 _
   obtain ⟨a, b, _, _⟩ := read_same (s := s) (e := 0) (p := p)
   exact ⟨o, hp, Decidable.not_not.1 h2, by rw [← e1, what_of a b], e2.symm⟩
theorem put_inv {k : Nat → Int} {s m : Sg} {p d : S} {r : Nat} (h : putS k s p r d = (m, 0)) : StOK k s ∧ chkN p = 0 ∧ d.length ≤ 65536 ∧ (editS s 0 ⟨p, false, canonE r, [], d⟩).2 = 0 ∧ m = (editS s 0 ⟨p, false, canonE r, [], d⟩).1 := by
 unfold putS at h
 split at h
 ·rename_i h1
  injection h with _ h
  exact absurd h h1
 ·rename_i h1
  obtain ⟨o, hp⟩ := start_one.1 (Decidable.not_not.1 h1)
  split at h
  ·injection h with _ h
   exact absurd h (by decide)
  ·rename_i h2
   unfold endS at h
   split at h
   ·rename_i h3
    injection h with _ h
    exact absurd h h3
   ·rename_i h3
    injection h with h _
    exact ⟨o, hp, by omega, Decidable.not_not.1 h3, h.symm⟩
theorem put_ok {k : Nat → Int} {s m : Sg} {p d : S} {r : Nat} (h : putS k s p r d = (m, 0)) : StOK k m := by
 obtain ⟨o, hp, hd, _, e⟩ := put_inv h
 rw [e]
 exact o.edit (mayE_new hp hd)
set_option maxRecDepth 100000
abbrev zS (x y : PdSt.El) : Int := cmpF x.1 y.1
theorem cmpQ_stage : PdSt.CmpQ 65 zS := ⟨body_65, fun x y h b => cmpG_ok x.1 y.1 x.2 y.2 h b⟩
theorem swo_stage : Sort.SWO (PdSt.ltZ zS) where
 irrefl x := by have := cmpF_eq (a := x.1) (b := x.1); simp [PdSt.ltZ, zS, this.2 rfl]
 trans x y w h1 h2 := by
  simp only [PdSt.ltZ, zS, decide_eq_true_eq] at h1 h2 ⊢
  exact cmpF_tr h1 h2
 ntrans x y w h1 h2 := by
  simp only [PdSt.ltZ, zS, decide_eq_false_iff_not] at h1 h2 ⊢
  intro h3
  rcases Int.lt_trichotomy (cmpF x.1 y.1) 0 with q | q | q
  ·exact h1 q
  ·rw [cmpF_eq.1 q] at h3; exact h2 h3
  ·have q' : cmpF y.1 x.1 < 0 := by rw [cmpF_anti]; omega
   exact h2 (cmpF_tr q' h3)
theorem cpt_ris (d : Array PdSt.El) (hs : d.toList.Pairwise (fun x y => ¬ zS y x < 0)) : ∀ m, m ≤ d.size →
  Ris nmQ ((PdSt.cpt d m).map (·.1)) ∧ (∀ x, x ∈ PdSt.cpt d m ↔ x ∈ d.toList.take m) ∧ (∀ x ∈ PdSt.cpt d m, 0 < m → ¬ zS d[m - 1]! x < 0)
 | 0, _ => ⟨by simp [PdSt.cpt, Ris.nil], by simp [PdSt.cpt], by simp [PdSt.cpt]⟩
 | m + 1, hm => by
   obtain ⟨h1, h2, h3⟩ := cpt_ris d hs m (by omega)
   have hget : ∀ i (hi : i < d.size), d.toList[i]'(by simpa using hi) = d[i]! := fun i hi => by rw [Array.getElem_toList, getElem!_pos d i hi]
   have hle : ∀ i j, i < j → (hj : j < d.size) → ¬ zS d[j]! d[i]! < 0 := fun i j hij hj => by
    have := List.pairwise_iff_getElem.1 hs i j (by simp; omega) (by simpa using hj) hij
    rwa [hget i (by omega), hget j hj] at this
   rw [PdSt.take_snoc d (by omega)]
   unfold PdSt.cpt
   split
   ·rename_i hq
    refine ⟨h1, fun x => ?_, fun x hx _ => ?_⟩
    ·rw [h2 x, List.mem_append, List.mem_singleton]
     refine ⟨.inl, fun q => q.elim (fun z => z) (fun z => ?_)⟩
     rw [z, hq.2]
     have : d.toList[m - 1]? = some d[m - 1]! := PdSt.toList_get d (by omega)
     exact List.mem_of_getElem? (i := m - 1) (by rw [List.getElem?_take, if_pos (by omega), this])
    ·have := h3 x hx hq.1
     rw [Nat.add_sub_cancel, hq.2]; exact this
   ·rename_i hq
    have hlow : ∀ x ∈ PdSt.cpt d m, zS x d[m]! < 0 := by
     intro x hx
     have hm0 : 0 < m := by
      rcases Nat.eq_zero_or_pos m with e | e
      ·subst e; simp [PdSt.cpt] at hx
      ·exact e
     have a1 := h3 x hx hm0
     have a2 := hle (m - 1) m (by omega) (by omega)
     have a3 : d[m]! ≠ d[m - 1]! := fun e => hq ⟨hm0, e⟩
     have b1 : zS d[m - 1]! d[m]! < 0 := by
      rcases Int.lt_trichotomy (zS d[m - 1]! d[m]!) 0 with q | q | q
      ·exact q
      ·exact absurd (Subtype.ext (cmpF_eq.1 q)).symm a3
      ·exact absurd (by show cmpF d[m]!.1 d[m - 1]!.1 < 0; rw [cmpF_anti]; have q' : 0 < cmpF d[m - 1]!.1 d[m]!.1 := q; omega) a2
     rcases Int.lt_trichotomy (zS x d[m - 1]!) 0 with q | q | q
     ·exact cmpF_tr q b1
     ·rw [show zS x d[m]! = cmpF x.1 d[m]!.1 from rfl, cmpF_eq.1 q]; exact b1
     ·exact absurd (by show cmpF d[m - 1]!.1 x.1 < 0; rw [cmpF_anti]; have q' : 0 < cmpF x.1 d[m - 1]!.1 := q; omega) a1
    refine ⟨?_, fun x => by rw [List.mem_append, List.mem_append, h2 x], fun x hx _ => ?_⟩
    ·rw [List.map_append]
     refine List.pairwise_append.2 ⟨h1, List.pairwise_singleton _ _, fun x hx y hy => ?_⟩
     obtain ⟨x', hx', rfl⟩ := List.mem_map.1 hx
     simp at hy
     subst hy
     exact hlow x' hx'
    ·rw [Nat.add_sub_cancel]
     rcases List.mem_append.1 hx with hx | hx
     ·intro q
      have := cmpF_tr (hlow x hx) q
      rw [cmpF_eq.2 rfl] at this
      omega
     ·rw [List.mem_singleton.1 hx]
      intro q
      rw [show zS d[m]! d[m]! = 0 from cmpF_eq.2 rfl] at q
      omega
def srtS (d : Array PdSt.El) : List PdSt.El := PdSt.cpt (PdSt.srtQ zS d) d.size
theorem srtS_ok (d : Array PdSt.El) : Ris nmQ ((srtS d).map (·.1)) ∧ ∀ x, x ∈ srtS d ↔ x ∈ d.toList := by
 have hsz := PdSt.srtQ_size swo_stage d
 obtain ⟨h1, h2, _⟩ := cpt_ris (PdSt.srtQ zS d) (PdSt.srtQ_sorted swo_stage d) d.size (by omega)
 refine ⟨h1, fun x => ?_⟩
 rw [show srtS d = PdSt.cpt (PdSt.srtQ zS d) d.size from rfl, h2 x, List.take_of_length_le (by rw [Array.length_toList]; omega)]
 exact (PdSt.srtQ_perm swo_stage d).mem_iff
theorem fileT_none {t : List Fl} {p : S} : fileT t p = none ↔ (getR t p).2 ≠ 0 := by
 unfold fileT getR
 by_cases c : checkT t ≠ 0 ∨ chkN p ≠ 0
 ·rw [if_pos c, if_pos c]; simp
 ·rw [if_neg c, if_neg c]
  by_cases h : hasL p t = true
  ·obtain ⟨hk, _⟩ := hasL_k.1 h
   rw [if_pos h, if_pos h, List.getElem?_eq_getElem hk]; simp
  ·rw [if_neg h, if_neg h]; simp
theorem fileT_some {t : List Fl} {p : S} {f : Fl} (h : fileT t p = some f) : getR t p = (f, 0) := by
 unfold fileT at h
 unfold getR
 by_cases c : checkT t ≠ 0 ∨ chkN p ≠ 0
 ·rw [if_pos c] at h; cases h
 ·rw [if_neg c] at h ⊢
  by_cases hh : hasL p t = true
  ·rw [if_pos hh] at h ⊢
   rw [List.getD_eq_getElem?_getD, h]; rfl
  ·rw [if_neg hh] at h; cases h
theorem smay_ok (t : List Fl) (x : Ed) (ht : t.length ≤ 1000000) (h : Heap) (b : Nat) : ACalls Tryz.prog 87 [FlsV t, EdV x] h b 0 (fun r h' => r = BoolV (mayE keyR t x) ∧ h' = h) := by
 refine ACalls.enter Tryz.func87 rfl (by simp [Tryz.ntmps87]) (fun ι w hn H => ?_)
 have hdl : (x.data.map encO).length = x.data.length := List.length_map _
 have fin : ∀ (tt : Nat → AV) (hh : Heap) (n : Nat) (v : Bool), tt 4 = BoolV v → (∀ id, id < b → hh id = h id) → v = mayE keyR t x → Am.Ends Tryz.prog ⟨Tryz.f87.ntmps, b, ι, h, w, x0⟩ Tryz.f87 0 (fun r h' => r = BoolV (mayE keyR t x) ∧ h' = h) ⟨tt, hh, n⟩ := by
  intro tt hh n v e ho hv
  exact Ends.pure hn H ho (r0 := BoolV v) (by rw [show Tryz.f87.results.toList = [.tmp 4] from rfl]; exact Ecf @e) (.v _) ⟨by rw [hv], rfl⟩
 refine Rk ?_
 refine AWP.seq ?_
 by_cases c1 : chkN x.name = 0
 case neg =>
  have c1' : (chkN x.name = 0) = False := eq_false c1
  refine Rg (fun E K hE hK => ?_)
  refine Us (Check_ok (mkS x.name) _ _) body_31 ?_
  refine Evf (jn2 @mkS_list @c1') ?_
  refine hK _ _ _ ?_; clear hE hK K E
  refine Bt ?_
  refine Rk ?_
  refine AWP.ret ?_
  refine Ev ?_
  exact fin _ _ _ false (by exact Er) Ou (by simp [mayE, c1])
 have c1' : (chkN x.name = 0) = True := eq_true c1
 refine Rg (fun E K hE hK => ?_)
 refine Us (Check_ok (mkS x.name) _ _) body_31 ?_
 refine Evf (jn2 @mkS_list @c1') ?_
 refine hK _ _ _ ?_; clear hE hK K E
 refine Bs ?_
 refine AWP.seq ?_
 refine AWP.block ?_
 cases hg : x.gone
 case true =>
  refine Rkf @hg ?_
  refine Bt ?_
  refine Rgf @hg (fun E K hE hK => ?_)
  refine CallR.use ((sone_ok x ⟨x.name, true, 0, [], []⟩ _ _).argNil (by rw [← hg]; exact ⟨lessV.refl _, ⟨.inl rfl, .inl (by rw [hg]), .inl rfl, .inl rfl, .nil 1, trivial⟩, trivial⟩)) body_91 ?_
  rintro _ _ ⟨rfl, rfl⟩
  refine Ev ?_
  refine hK _ _ _ ?_; clear hE hK K E
  refine AWP.ret ?_
  refine Ev ?_
  exact fin _ _ _ (oneX x ⟨x.name, true, 0, [], []⟩) (by exact Er) Ou (by simp [mayE, oneX, c1, hg])
 refine Rkf @hg ?_
 refine Bf ?_
 by_cases c2 : x.of = []
 ·have c2' : (x.of = []) = True := eq_true c2
  refine Rkf (jn2 @mkS_list @c2') ?_
  refine Bt ?_
  refine Rkf @hdl ?_
  refine AWP.ret ?_
  refine Ev ?_
  exact fin _ _ _ (decide ((x.data.length : Int) ≤ 65536)) (by exact Er) Ou (by simp [mayE, c1, hg, c2]; omega)
 have c2' : (x.of = []) = False := eq_false c2
 refine Rkf (jn2 @mkS_list @c2') ?_
 refine Bf ?_
 refine AWP.skip ?_
 refine Ev ?_
 have cg : ∀ h b, ACalls Tryz.prog 112 [FlsV t, StrV x.of] h b 0 (fun r h' => r = .tup [.agg [.p (.v (.string (mkS (getR t x.of).1.name))), .p (.v (.float .f64 (getR t x.of).1.rank)), .p (.v (.int .u32 (getR t x.of).1.sum)), .p (.v (.int .i64 (getR t x.of).1.blk)), .p (.v (.int .i64 (getR t x.of).1.frm)), .p (.v (.int .i64 (getR t x.of).1.len))], IntV (getR t x.of).2] ∧ h' = h) := Get_ok t x.of ht
 refine Rg (fun E K hE hK => ?_)
 refine Us (cg _ _) body_112 ?_
 refine hK _ _ _ ?_; clear hE hK K E
 cases hf : fileT t x.of with
 | none =>
   have e0 : ((getR t x.of).2 = 0) = False := eq_false (fileT_none.1 hf)
   refine Rkf @e0 ?_
   refine AWP.ret ?_
   exact fin _ _ _ false (by exact Er) Ou (by simp [mayE, c1, hg, c2, hf])
 | some f =>
   have e0 : ((getR t x.of).2 = 0) = True := eq_true (by rw [fileT_some hf])
   refine Rkf (jn2 @e0 @hdl) ?_
   refine AWP.ret ?_
   exact fin _ _ _ (decide ((x.data.length : Int) = 0)) (by exact Er) Ou (by simp [mayE, c1, hg, c2, hf])
def prevE (l : List Ed) (i : Nat) : Option S := if i = 0 then none else (l[i - 1]?).map Ed.name
theorem sCheck_ok (s : Sg) (ht : s.t.length ≤ 1000000) (hl : s.ed.length ≤ 1000000) (hn1 : s.names.length ≤ 1000000) (hd1 : s.dirs.length ≤ 1000000) (h : Heap) (b : Nat) : ACalls Tryz.prog 35 [SgV s] h b 0 (fun r h' => r = IntV (checkS keyR s) ∧ h' = h) := by
 refine ACalls.enter Tryz.func35 rfl (by simp [Tryz.ntmps35]) (fun ι w hn H => ?_)
 have hlow := H.lowCells
 have hlm : (s.ed.map encEd).length = s.ed.length := List.length_map _
 have fin : ∀ (t : Nat → AV) (hh : Heap) (n : Nat) (v : Int), t 2 = IntV v → (∀ id, id < b → hh id = h id) → v = checkS keyR s → Am.Ends Tryz.prog ⟨Tryz.f35.ntmps, b, ι, h, w, x0⟩ Tryz.f35 0 (fun r h' => r = IntV (checkS keyR s) ∧ h' = h) ⟨t, hh, n⟩ := by
  intro t hh n v ht ho hv
  exact Ends.pure hn H ho (r0 := IntV v) (by rw [show Tryz.f35.results.toList = [.tmp 2] from rfl]; exact Ecf @ht) (.v _) ⟨by rw [hv], rfl⟩
 refine Rk ?_
 refine AWP.seq ?_
 by_cases c0 : 1099511627776 < s.gen
 ·refine Rkf @c0 ?_
  refine Bt ?_
  refine Rk ?_
  refine AWP.ret ?_
  refine Ev ?_
  exact fin _ _ _ 1 (by exact Er) Ou (by unfold checkS; rw [if_pos (.inl c0)])
 by_cases c1 : checkT s.t = 0
 case neg =>
  have c1' : (checkT s.t = 0) = False := eq_false c1
  refine Rgf @c0 (fun E K hE hK => ?_)
  refine Us (tCheck_ok s.t ht _ _) body_85 ?_
  refine Evf @c1' ?_
  refine hK _ _ _ ?_; clear hE hK K E
  refine Bt ?_
  refine Rk ?_
  refine AWP.ret ?_
  refine Ev ?_
  exact fin _ _ _ 1 (by exact Er) Ou (by unfold checkS; rw [if_pos (.inr (.inl c1))])
 have c1' : (checkT s.t = 0) = True := eq_true c1
 by_cases c2 : mayX s.names s.dirs = 0
 case neg =>
  have c2' : (mayX s.names s.dirs = 0) = False := eq_false c2
  refine Rgf @c0 (fun E K hE hK => ?_)
  refine Us (tCheck_ok s.t ht _ _) body_85 ?_
  refine Evf @c1' ?_
  refine Us (vMay_ok s.names s.dirs hn1 hd1 _ _) body_86 ?_
  refine Evf @c2' ?_
  refine hK _ _ _ ?_; clear hE hK K E
  refine Bt ?_
  refine Rk ?_
  refine AWP.ret ?_
  refine Ev ?_
  exact fin _ _ _ 1 (by exact Er) Ou (by unfold checkS; rw [if_pos (.inr (.inr (.inl c2)))])
 have c2' : (mayX s.names s.dirs = 0) = True := eq_true c2
 by_cases c3 : (256 : Int) < s.ed.length
 ·refine Rgf @c0 (fun E K hE hK => ?_)
  refine Us (tCheck_ok s.t ht _ _) body_85 ?_
  refine Evf @c1' ?_
  refine Us (vMay_ok s.names s.dirs hn1 hd1 _ _) body_86 ?_
  refine Evf (jn3 @c2' @hlm @c3) ?_
  refine hK _ _ _ ?_; clear hE hK K E
  refine Bt ?_
  refine Rk ?_
  refine AWP.ret ?_
  refine Ev ?_
  exact fin _ _ _ 1 (by exact Er) Ou (by unfold checkS; rw [if_pos (.inr (.inr (.inr (by omega))))])
 have hcx : checkS keyR s = if ckE keyR s.t none s.ed = true then 0 else 1 := by
  unfold checkS; rw [if_neg (by rintro (h | h | h | h); exact c0 h; exact h c1; exact h c2; omega)]
 refine Rgf @c0 (fun E K hE hK => ?_)
 refine Us (tCheck_ok s.t ht _ _) body_85 ?_
 refine Evf @c1' ?_
 refine Us (vMay_ok s.names s.dirs hn1 hd1 _ _) body_86 ?_
 refine Evf (jn3 @c2' @hlm @c3) ?_
 refine hK _ _ _ ?_; clear hE hK K E
 refine Bs ?_
 refine AWP.seq ?_
 refine Rkf @hlm ?_
 refine AWP.block ?_
 refine AWP.loopM 1 (fun k st => ∃ i, i ≤ s.ed.length ∧ k = s.ed.length - i ∧ (∀ id, id < b → st.h id = h id) ∧ st.h b = some ⟨0, (encSg s).map .p⟩ ∧ st.t 1 = .one (.ptr b 0 0) ∧ st.t 27 = EdsV s.ed ∧ st.t 28 = IntV s.ed.length ∧ st.t 29 = IntV (i : Nat) ∧ ckE keyR s.t none s.ed = ckE keyR s.t (prevE s.ed i) (s.ed.drop i) ∧ ∀ x ∈ s.ed.take i, chkN x.name = 0) s.ed.length rfl ⟨0, Nat.zero_le _, rfl, Ou, by exact Er, by exact Er, by exact Er, by exact Er, by exact Er, rfl, by simp⟩ ?_
 rintro k ⟨t, hh, n⟩ ⟨i, hi, rfl, ho, hB, e1, e27, e28, e29, hc, hmay⟩ hn2
 simp only at ho hB e1 e27 e28 e29 hn2
 subst hn2
 refine Rkf (jn2 @e28 @e29) ?_
 refine AWP.seq ?_
 by_cases hlt : (i : Int) < s.ed.length
 ·have hw1 : IntKind.i64.wrap ((i : Int) + 1) = ((i + 1 : Nat) : Int) := by rw [wrap_i64 (by omega) (by omega)]; rfl
  have hi2 : i < s.ed.length := by omega
  have hge := encEd_getD s.ed i hi2
  obtain ⟨x, hx⟩ : ∃ x, s.ed[i] = x := ⟨_, rfl⟩
  have hdr : s.ed.drop i = x :: s.ed.drop (i + 1) := by rw [List.drop_eq_getElem_cons hi2, hx]
  have hpn : prevE s.ed (i + 1) = some x.name := by unfold prevE; rw [if_neg (by omega), Nat.add_sub_cancel, List.getElem?_eq_getElem hi2, hx]; rfl
  rw [hx] at hge
  have hc2 : ckE keyR s.t none s.ed = (mayE keyR s.t x && ((match prevE s.ed i with | none => true | some p => decide (cmpF p x.name < 0)) && ckE keyR s.t (some x.name) (s.ed.drop (i + 1)))) := by rw [hc, hdr]; rfl
  have bad : ckE keyR s.t none s.ed = false → 1 = checkS keyR s := fun e => by rw [hcx, e]; rfl
  have hmay2 : mayE keyR s.t x = true → ∀ y ∈ s.ed.take (i + 1), chkN y.name = 0 := by
   intro g y hy
   rw [List.take_add_one, List.getElem?_eq_getElem hi2, hx] at hy
   rcases List.mem_append.1 hy with hy | hy
   ·exact hmay y hy
   ·simp at hy; subst hy
    unfold mayE at g
    simp only [Bool.and_eq_true, decide_eq_true_eq] at g
    exact g.1
  refine Btf @hlt ?_
  refine AWP.skip ?_
  refine Ev ?_
  refine AWP.seq ?_
  refine AWP.block ?_
  refine Rgf (jn5 @e27 @e29 @hlm @hlt @hge) (fun E K hE hK => ?_)
  refine ⟨by omega, ?_⟩
  refine hK _ _ _ ?_; clear hE hK K E
  cases c4 : mayE keyR s.t x
  ·refine AWP.seqRegDG [] [] [] mixed (drawF_ok (by kernel_rfl)) (by kernel_rfl) (fun K hK => ?_); simp -implicitDefEqProofs only [go_sem, ↓reduceIte, Nat.reduceEqDiff, Nat.reduceAdd, Nat.reduceLT, Nat.reduceLeDiff, reduceCtorEq, Int.toNat_natCast, e1, hB]
   refine Ud (smay_ok s.t x ht _ _) body_87 ?_
   try (refine Evf @c4 ?_)
   repeat (first | (refine Gd 39 ?_) | (refine Gd 42 ?_) | (refine ⟨by omega, ?_⟩))
   refine hK _ _ _ ?_; clear hK K
   refine Bt ?_
   refine Rk ?_
   refine AWP.ret ?_
   refine Ev ?_
   exact fin _ _ _ 1 (by exact Er) (Ouf @ho) (bad (by rw [hc2, c4]; rfl))
  by_cases h0 : i = 0
  ·have h0' : ¬ (0 : Int) < i := by omega
   refine AWP.seqRegDG [] [] [] mixed (drawF_ok (by kernel_rfl)) (by kernel_rfl) (fun K hK => ?_); simp -implicitDefEqProofs only [go_sem, ↓reduceIte, Nat.reduceEqDiff, Nat.reduceAdd, Nat.reduceLT, Nat.reduceLeDiff, reduceCtorEq, Int.toNat_natCast, e1, hB, h0']
   refine Ud (smay_ok s.t x ht _ _) body_87 ?_
   try (refine Evf @c4 ?_)
   repeat (first | (refine Gdf 39 (jn3 @h0' @e1 @hB) ?_) | (refine Gdf 42 (jn3 @h0' @e1 @hB) ?_) | (refine ⟨by omega, ?_⟩))
   refine hK _ _ _ ?_; clear hK K
   refine Bf ?_
   refine AWP.skip ?_
   refine Ev ?_
   refine Raf (jn2 @e29 @hw1) (fun E K hE hK => ?_); refine hK _ _ _ ?_; clear hE hK K E
   exact ⟨(by decide : 1 ≤ 2), s.ed.length - (i + 1), by omega, i + 1, by omega, rfl, cutH_outer (Nat.le_succ _) (Ouf @ho) hlow, cutH_same (Nat.lt_succ_self _) (by exact Erf @hB) (by simp [lowCs, lowC]), by refine Evf @e1 ?_; exact cutV_ptr (Nat.lt_succ_self _), by exact Ecf @e27, by exact Ecf @e28, by exact Er, by rw [hc2, c4, hpn]; unfold prevE; rw [if_pos h0]; rfl, hmay2 c4⟩
  have h0' : (0 : Int) < i := by omega
  have hi3 : i - 1 < s.ed.length := by omega
  have hge2 := encEd_getD s.ed (i - 1) hi3
  have hwm : IntKind.i64.wrap ((i : Int) - 1) = ((i - 1 : Nat) : Int) := by rw [wrap_i64 (by omega) (by omega)]; omega
  have hlt2 : ((i - 1 : Nat) : Int) < s.ed.length := by omega
  obtain ⟨g, hg⟩ : ∃ g, s.ed[i - 1] = g := ⟨_, rfl⟩
  have hpi : prevE s.ed i = some g.name := by unfold prevE; rw [if_neg h0, List.getElem?_eq_getElem hi3, hg]; rfl
  rw [hg] at hge2
  have hgm : chkN g.name = 0 := hmay g (by
   have : s.ed[i - 1]? = (s.ed.take i)[i - 1]? := by rw [List.getElem?_take, if_pos (by omega)]
   rw [List.getElem?_eq_getElem hi3, hg] at this
   exact List.mem_of_getElem? this.symm)
  have hxm : chkN x.name = 0 := hmay2 c4 x (by rw [List.take_add_one, List.getElem?_eq_getElem hi2, hx]; simp)
  rw [hpi] at hc2
  simp only at hc2
  by_cases c5 : 0 ≤ cmpF g.name x.name
  ·refine AWP.seqRegDG [] [] [] mixed (drawF_ok (by kernel_rfl)) (by kernel_rfl) (fun K hK => ?_); simp -implicitDefEqProofs only [go_sem, ↓reduceIte, Nat.reduceEqDiff, Nat.reduceAdd, Nat.reduceLT, Nat.reduceLeDiff, reduceCtorEq, Int.toNat_natCast, e1, hB, h0', hlm, hwm, hlt2, hge2]
   refine Ud (smay_ok s.t x ht _ _) body_87 ?_
   try (refine Evf @c4 ?_)
   repeat (first | (refine Gdf 39 (jn7 @h0' @e1 @hB @hlm @hwm @hlt2 @hge2) ?_) | (refine Gdf 42 (jn7 @h0' @e1 @hB @hlm @hwm @hlt2 @hge2) ?_) | (refine ⟨by omega, ?_⟩))
   refine Ud (orderG_ok g x.name (.inr hgm) (.inr hxm) _ _) body_88 ?_
   try (refine Evf @c5 ?_)
   repeat (first | (refine Gdf 39 (jn4 @h0' @e1 @hB @c5) ?_) | (refine Gdf 42 (jn4 @h0' @e1 @hB @c5) ?_) | (refine ⟨by omega, ?_⟩))
   refine hK _ _ _ ?_; clear hK K
   refine Bt ?_
   refine Rk ?_
   refine AWP.ret ?_
   refine Ev ?_
   exact fin _ _ _ 1 (by exact Er) (Ouf @ho) (bad (by rw [hc2, decide_eq_false (show ¬ cmpF g.name x.name < 0 by omega)]; simp))
  ·refine AWP.seqRegDG [] [] [] mixed (drawF_ok (by kernel_rfl)) (by kernel_rfl) (fun K hK => ?_); simp -implicitDefEqProofs only [go_sem, ↓reduceIte, Nat.reduceEqDiff, Nat.reduceAdd, Nat.reduceLT, Nat.reduceLeDiff, reduceCtorEq, Int.toNat_natCast, e1, hB, h0', hlm, hwm, hlt2, hge2]
   refine Ud (smay_ok s.t x ht _ _) body_87 ?_
   try (refine Evf @c4 ?_)
   repeat (first | (refine Gdf 39 (jn7 @h0' @e1 @hB @hlm @hwm @hlt2 @hge2) ?_) | (refine Gdf 42 (jn7 @h0' @e1 @hB @hlm @hwm @hlt2 @hge2) ?_) | (refine ⟨by omega, ?_⟩))
   refine Ud (orderG_ok g x.name (.inr hgm) (.inr hxm) _ _) body_88 ?_
   try (refine Evf @c5 ?_)
   repeat (first | (refine Gdf 39 (jn4 @h0' @e1 @hB @c5) ?_) | (refine Gdf 42 (jn4 @h0' @e1 @hB @c5) ?_) | (refine ⟨by omega, ?_⟩))
   refine hK _ _ _ ?_; clear hK K
   refine Bf ?_
   refine AWP.skip ?_
   refine Ev ?_
   refine Raf (jn2 @e29 @hw1) (fun E K hE hK => ?_); refine hK _ _ _ ?_; clear hE hK K E
   exact ⟨(by decide : 1 ≤ 2), s.ed.length - (i + 1), by omega, i + 1, by omega, rfl, cutH_outer (Nat.le_succ _) (Ouf @ho) hlow, cutH_same (Nat.lt_succ_self _) (by exact Erf @hB) (by simp [lowCs, lowC]), by refine Evf @e1 ?_; exact cutV_ptr (Nat.lt_succ_self _), by exact Ecf @e27, by exact Ecf @e28, by exact Er, by rw [hc2, c4, hpn, decide_eq_true (show cmpF g.name x.name < 0 by omega)]; rfl, hmay2 c4⟩
 ·refine Bff @hlt ?_
  refine AWP.exit ?_
  refine Ev ?_
  refine Rk ?_
  refine AWP.ret ?_
  refine fin _ _ _ 0 (by exact Er) ho ?_
  have : i = s.ed.length := by omega
  subst this
  rw [hcx, hc, List.drop_length]; rfl
theorem Ends.keepL {P : Program} {C : Ctx} {fn : Func} {R : AV → Heap → Prop} {s : St} {r0 r : AV} {m : Nat} (L : List (Nat × Blk × List Cell)) (hm : L.length = m) (H : HeapOK C.ι C.h C.b C.w) (he : ∀ id, id < C.b → s.h id = C.h id)
  (hL : ∀ x ∈ L, C.b ≤ x.1 ∧ s.h x.1 = some x.2.1 ∧ x.2.2.length = x.2.1.cells.length ∧ ∀ (i : Nat) (c d : Cell), x.2.1.cells[i]? = some c → x.2.2[i]? = some d → renC s.h C.b (L.map fun x => (x.1, x.2.2)) c d)
  (nd : (L.map (·.1)).Nodup) (hr : resA P s.h s.t fn.results.toList = some r0) (hf : renV s.h C.b (L.map fun x => (x.1, x.2.2)) r0 r)
  (hR : ∀ h' : Heap, (∀ k x, L[k]? = some x → h' (C.b + k) = some ⟨x.2.1.ver, x.2.2⟩) → (∀ id, id < C.b → h' id = C.h id) → R r h') : Am.Ends P C fn m R s := by
 refine Am.Ends.keep (L.map fun x => (x.1, x.2.2)) (by rw [List.length_map]; exact hm) ⟨fun k id ds e => ?_, fun k k' id ds ds' e e' => ?_, fun i hi b0 e => H.lowCells i b0 (by rw [← he i hi]; exact e)⟩ hr hf (hR _ (fun k x e => ?_) (fun id hid => ?_))
 ·rw [List.getElem?_map] at e
  obtain ⟨x, hx, hxe⟩ := Option.map_eq_some_iff.1 e
  injection hxe with h1 h2
  subst h1; subst h2
  obtain ⟨q1, q2, q3, q4⟩ := hL x (List.mem_of_getElem? hx)
  exact ⟨q1, x.2.1, q2, q3, q4⟩
 ·rw [List.getElem?_map] at e e'
  obtain ⟨x, hx, hxe⟩ := Option.map_eq_some_iff.1 e
  obtain ⟨y, hy, hye⟩ := Option.map_eq_some_iff.1 e'
  injection hxe with h1 _
  injection hye with h2 _
  have k1 := (List.getElem?_eq_some_iff.1 hx).1
  have k2 := (List.getElem?_eq_some_iff.1 hy).1
  have e3 : (L.map (·.1))[k]? = (L.map (·.1))[k']? := by
   rw [List.getElem?_map, List.getElem?_map, hx, hy]
   show some x.1 = some y.1
   rw [h1, h2]
  exact (List.getElem?_inj (by rw [List.length_map]; exact k1) nd).1 e3
 ·unfold keepH
  rw [if_neg (by omega), Nat.add_sub_cancel_left, List.getElem?_map, e]
  show (s.h x.1).map _ = _
  rw [(hL x (List.mem_of_getElem? e)).2.1]; rfl
 ·unfold keepH
  rw [if_pos hid]; exact he id hid
structure SzS (s : Sg) : Prop where
 t : s.t.length ≤ 1000000
 ed : s.ed.length ≤ 1000000
 nm : s.names.length ≤ 1000000
 dr : s.dirs.length ≤ 1000000
 data : ∀ x ∈ s.ed, x.data.length ≤ 1000000
def ownSR (s : Sg) (h : Heap) (b : Nat) (r : AV) (h' : Heap) : Prop :=
 ∃ ev ec nv nc dv dc, r = .agg [.p (.v (.int .u64 s.gen)), .p (.sl 6 (s.t.map encF)), .win b ev 0 s.ed.length ec, .win (b + 1) nv 0 s.names.length nc, .win (b + 2) dv 0 s.dirs.length dc] ∧
   RowAt h' b ev ec 5 (s.ed.map encEd) ∧ RowAt h' (b + 1) nv nc 1 (s.names.map encS) ∧ RowAt h' (b + 2) dv dc 1 (s.dirs.map encS) ∧ ∀ id, id < b → h' id = h id
def oSI (s : Sg) (ev ec : Nat) (Te : List Cell) (nv nc : Nat) (Tn : List Cell) (dv dc : Nat) (Td : List Cell) (h : Heap) (b : Nat) (st : St) : Prop :=
 st.h b = some ⟨0, [.p (.v (.int .u64 s.gen)), .p (.sl 6 (s.t.map encF)), .win (b + 2) ev 0 s.ed.length ec, .win (b + 3) nv 0 s.names.length nc, .win (b + 4) dv 0 s.dirs.length dc]⟩ ∧ (∃ x y z w v, st.h (b + 1) = some ⟨0, [.p x, .p y, .p z, .p w, .p v]⟩) ∧
  st.h (b + 2) = some (rowB ev (s.ed.map encEd) Te) ∧ st.h (b + 3) = some (rowB nv (s.names.map encS) Tn) ∧ st.h (b + 4) = some (rowB dv (s.dirs.map encS) Td) ∧ (∀ id, id < b → st.h id = h id) ∧ st.t 1 = .one (.ptr b 0 0) ∧ st.t 2 = .one (.ptr (b + 1) 0 0)
theorem sown_ok (s : Sg) (z : SzS s) (h : Heap) (b : Nat) : ACalls Tryz.prog 110 [SgV s] h b 3 (ownSR s h b) := by
 refine ACalls.enter Tryz.func110 rfl (by simp [Tryz.ntmps110]) (fun ι w hn H => ?_)
 have hlow := H.lowCells
 have hz1 := z.t; have hz2 := z.ed; have hz3 := z.nm; have hz4 := z.dr
 have htm : (s.t.map encF).length = s.t.length := List.length_map _
 have hem : (s.ed.map encEd).length = s.ed.length := List.length_map _
 have hnm : (s.names.map encS).length = s.names.length := List.length_map _
 have hdm : (s.dirs.map encS).length = s.dirs.length := List.length_map _
 refine AWP.seqReg (by kernel_rfl) (fun E K hE hK => ?_); simp -implicitDefEqProofs only [go_sem, ↓reduceIte, Nat.reduceEqDiff, Nat.reduceAdd, Nat.reduceLT, Nat.reduceLeDiff, reduceCtorEq, Int.toNat_natCast, encSg]; refine hK _ _ _ ?_; clear hE hK K E
 refine Am.AWP.genT (fun st => st.n = 2 ∧ st.t 1 = .one (.ptr b 0 0) ∧ st.t 2 = .one (.ptr (b + 1) 0 0) ∧ st.h b = some ⟨0, (encSg s).map .p⟩ ∧ (∃ x y z w v, st.h (b + 1) = some ⟨0, [.p x, .p y, .p z, .p w, .p v]⟩) ∧ ∀ id, id < b → st.h id = h id) ⟨rfl, by exact Er, by exact Er, by (first | (simp -implicitDefEqProofs only [go_sem, ↓reduceIte, Nat.reduceEqDiff, Nat.reduceAdd, Nat.reduceLT, Nat.reduceLeDiff, reduceCtorEq, Int.toNat_natCast, encSg]; first | done | rfl) | rfl), ⟨_, _, _, _, _, by exact Er⟩, Ou⟩ ?_
 rintro ⟨t, h1, n⟩ ⟨hn1, e1, e2, hM, ⟨x1, x2, x3, x4, x5, hR⟩, ho⟩
 simp only at hn1 e1 e2 hM hR ho
 subst hn1
 refine AWP.known (fun hnew => ?_)
 simp only at hnew
 refine AWP.seqRegC 7 [7] [FlsV s.t] (h1) (Sub.refl _) mixed (by kernel_rfl) (by kernel_rfl) (by kernel_rfl) (fun K hK => ?_) (by kernel_rfl); simp -implicitDefEqProofs only [go_sem, ↓reduceIte, Nat.reduceEqDiff, Nat.reduceAdd, Nat.reduceLT, Nat.reduceLeDiff, reduceCtorEq, Int.toNat_natCast, List.take_succ_cons, List.take_zero, List.drop_succ_cons, List.drop_zero,  e1, hM, encSg]
 refine CallP.use (fun _ _ _ => (clone_fl_ok (s.t.map encF) (okEs_fl s.t) _ _ (by omega)).rowFrz (okEs_fl s.t)) body_78 ?_
 simp -implicitDefEqProofs only [go_sem, ↓reduceIte, Nat.reduceEqDiff, Nat.reduceAdd, Nat.reduceLT, Nat.reduceLeDiff, reduceCtorEq, Int.toNat_natCast, e1, hM, encSg]
 refine CallD.use (clone_ed_ok (s.ed.map encEd) (okEs_ed s.ed) _ _ (by omega)) body_154 ?_
 rintro _ _ ⟨ev, ec, Te, g1, g2, g3, rfl, rfl⟩
 refine ⟨(Sub.refl _).new (hnew _ (Nat.le_refl _)), ?_⟩
 rw [hem] at g1 g2 ⊢
 simp -implicitDefEqProofs only [go_sem, ↓reduceIte, Nat.reduceEqDiff, Nat.reduceAdd, Nat.reduceLT, Nat.reduceLeDiff, reduceCtorEq, Int.toNat_natCast, e1, hM, encSg]
 obtain ⟨H2, hH2⟩ : ∃ H2, H2 = upd h1 (b + 2) (rowB ev (s.ed.map encEd) Te) := ⟨_, rfl⟩
 have hM2 : H2 b = some ⟨0, (encSg s).map .p⟩ := by rw [hH2]; exact Erf @hM
 rw [← hH2]
 refine P2 (ers H2 b) (sub_ers _ _) ?_
 have hEd2 : H2 (b + 2) = some (rowB ev (s.ed.map encEd) Te) := by rw [hH2]; exact upd_same _ _ _
 simp -implicitDefEqProofs only [go_sem, ↓reduceIte, Nat.reduceEqDiff, Nat.reduceAdd, Nat.reduceLT, Nat.reduceLeDiff, reduceCtorEq, Int.toNat_natCast, e1, hM2, encSg, hEd2]
 refine ⟨sub_at _ hM2, sub_at _ hM2, ?_⟩
 refine hK _ _ _ ?_; clear hK K
 refine Am.AWP.genT (fun st => st.n = 3 ∧ st.t 1 = .one (.ptr b 0 0) ∧ st.t 2 = .one (.ptr (b + 1) 0 0) ∧ st.h b = some ⟨0, [.p (.v (.int .u64 s.gen)), .p (.sl 6 (s.t.map encF)), .win (b + 2) ev 0 s.ed.length ec, .p (.sl 1 (s.names.map encS)), .p (.sl 1 (s.dirs.map encS))]⟩ ∧ st.h (b + 1) = some ⟨0, [.p x1, .p x2, .p x3, .p x4, .p x5]⟩ ∧ st.h (b + 2) = some (rowB ev (s.ed.map encEd) Te) ∧ ∀ id, id < b → st.h id = h id)
  ⟨rfl, by exact Erf @e1, by exact Erf @e2, upd_same _ _ _, (upd_ne _ _ _ _ (by omega)).trans (by rw [hH2, upd_ne _ _ _ _ (by omega)]; exact hR), (upd_ne _ _ _ _ (by omega)).trans hEd2, fun id hid => (upd_ne _ _ _ _ (by omega)).trans (by rw [hH2, upd_ne _ _ _ _ (by omega)]; exact ho id hid)⟩ ?_
 clear hM2 hEd2 hH2 hM hR ho e1 e2 hnew
 rintro ⟨t, h1, n⟩ ⟨hn1, e1, e2, hM, hR, hEd, ho⟩
 simp only at hn1 e1 e2 hM hR hEd ho
 subst hn1
 refine AWP.known (fun hnew => ?_)
 simp only at hnew
 refine AWP.seqRegC 10 [] [] (h1) (Sub.refl _) mixed (by kernel_rfl) (by kernel_rfl) (by kernel_rfl) (fun K hK => ?_) (by kernel_rfl); simp -implicitDefEqProofs only [go_sem, ↓reduceIte, Nat.reduceEqDiff, Nat.reduceAdd, Nat.reduceLT, Nat.reduceLeDiff, reduceCtorEq, Int.toNat_natCast, List.take_succ_cons, List.take_zero, List.drop_succ_cons, List.drop_zero,  e1, hM]
 refine CallD.use (clone_str_ok (s.names.map encS) (okEs_str s.names) _ _ (by omega)) body_95 ?_
 rintro _ _ ⟨nv, nc, Tn, k1, k2, k3, rfl, rfl⟩
 refine ⟨(Sub.refl _).new (hnew _ (Nat.le_refl _)), ?_⟩
 rw [hnm] at k1 k2 ⊢
 refine Evf (jn2 @e1 @hM) ?_
 refine CallD.use (clone_str_ok (s.dirs.map encS) (okEs_str s.dirs) _ _ (by omega)) body_95 ?_
 rintro _ _ ⟨dv, dc, Td, l1, l2, l3, rfl, rfl⟩
 refine ⟨((Sub.refl _).new (hnew _ (Nat.le_refl _))).new ?_, ?_⟩
 ·show upd h1 (b + 3) _ (b + 4) = none
  rw [upd_ne _ _ _ _ (by omega)]; exact hnew _ (by omega)
 rw [hdm] at l1 l2 ⊢
 refine Evf (jn2 @e1 @hM) ?_
 obtain ⟨H2, hH2⟩ : ∃ H2, H2 = upd (upd h1 (b + 3) (rowB nv (s.names.map encS) Tn)) (b + 4) (rowB dv (s.dirs.map encS) Td) := ⟨_, rfl⟩
 have hM2 : H2 b = some ⟨0, [.p (.v (.int .u64 s.gen)), .p (.sl 6 (s.t.map encF)), .win (b + 2) ev 0 s.ed.length ec, .p (.sl 1 (s.names.map encS)), .p (.sl 1 (s.dirs.map encS))]⟩ := by rw [hH2]; exact Erf @hM
 have hN2 : H2 (b + 3) = some (rowB nv (s.names.map encS) Tn) := by rw [hH2, upd_ne _ _ _ _ (by omega)]; exact upd_same _ _ _
 have hD2 : H2 (b + 4) = some (rowB dv (s.dirs.map encS) Td) := by rw [hH2]; exact upd_same _ _ _
 have ho2 : ∀ id, id < b + 3 → H2 id = h1 id := fun id hid => by rw [hH2, upd_ne _ _ _ _ (by omega), upd_ne _ _ _ _ (by omega)]
 rw [← hH2]
 refine P2 (ers H2 b) (sub_ers _ _) ?_
 refine Evf (jn4 @e1 @hM2 @hN2 @hD2) ?_
 refine ⟨sub_at _ hM2, sub_at _ hM2, ?_⟩
 refine hK _ _ _ ?_; clear hK K
 refine Am.AWP.genT (fun st => st.n = 5 ∧ oSI s ev ec Te nv nc Tn dv dc Td h b st) ⟨rfl, upd_same _ _ _, ⟨x1, x2, x3, x4, x5, (upd_ne _ _ _ _ (by omega)).trans ((ho2 _ (by omega)).trans hR)⟩, (upd_ne _ _ _ _ (by omega)).trans ((ho2 _ (by omega)).trans hEd), (upd_ne _ _ _ _ (by omega)).trans hN2, (upd_ne _ _ _ _ (by omega)).trans hD2, fun id hid => (upd_ne _ _ _ _ (by omega)).trans ((ho2 _ (by omega)).trans (ho id hid)), by exact Erf @e1, by exact Erf @e2⟩ ?_
 clear hM2 hN2 hD2 ho2 hH2 hM hR hEd ho e1 e2 hnew
 rintro ⟨t, h1, n⟩ ⟨hn1, hM, ⟨x1, x2, x3, x4, x5, hR⟩, hEd, hN, hD, ho, e1, e2⟩
 simp only at hn1 hM hR hEd hN hD ho e1 e2
 subst hn1
 refine AWP.seq ?_
 refine AWP.seqReg (by kernel_rfl) (fun E K hE hK => ?_); simp -implicitDefEqProofs only [go_sem, ↓reduceIte, Nat.reduceEqDiff, Nat.reduceAdd, Nat.reduceLT, Nat.reduceLeDiff, reduceCtorEq, Int.toNat_natCast, e1, hM, hEd, rowB]; refine hK _ _ _ ?_; clear hE hK K E
 have hcl : ∀ i, (hi : i < s.ed.length) → ((s.ed.map encEd).flatten.map Cell.p ++ Te)[i * 5 + 4]? = some (.p (.sl 1 (s.ed[i].data.map encO))) ∧ List.take 5 (List.drop (i * 5) ((s.ed.map encEd).flatten.map Cell.p ++ Te)) = (encEd s.ed[i]).map .p := by
  intro i hi
  have he : (s.ed.map encEd)[i]? = some (encEd s.ed[i]) := by rw [List.getElem?_map, List.getElem?_eq_getElem hi]; rfl
  refine ⟨?_, row_part Te (okEs_ed s.ed) he⟩
  have := row_cells (okEs_ed s.ed) ev Te i (encEd s.ed[i]) he 4 (.sl 1 (s.ed[i].data.map encO)) rfl
  rwa [Nat.zero_add] at this
 have hcl2 : ((s.ed.map encEd).flatten.map Cell.p ++ Te).length = s.ed.length * 5 + Te.length := by rw [List.length_append, List.length_map, okEs_len (okEs_ed s.ed), hem]
 refine AWP.block ?_
 refine AWP.loopM 5 (fun k st => ∃ i, i ≤ s.ed.length ∧ k = s.ed.length - i ∧ oSI s ev ec Te nv nc Tn dv dc Td h b st ∧ st.t 26 = .one (.win (b + 2) ev 0 s.ed.length ec) ∧ st.t 27 = IntV s.ed.length ∧ st.t 28 = IntV (i : Nat)) s.ed.length rfl ⟨0, Nat.zero_le _, rfl, ⟨hM, ⟨x1, x2, x3, x4, x5, hR⟩, hEd, hN, hD, ho, by exact Erf @e1, by exact Erf @e2⟩, by exact Er, by exact Er, by exact Er⟩ ?_
 clear hM hR hEd hN hD ho e1 e2
 rintro k ⟨t, hh, n⟩ ⟨i, hi, rfl, ⟨hM, ⟨x1, x2, x3, x4, x5, hR⟩, hEd, hN, hD, ho, e1, e2⟩, e26, e27, e28⟩ hn1
 simp only at hM hR hEd hN hD ho e1 e2 e26 e27 e28 hn1
 subst hn1
 refine Rkf (jn2 @e27 @e28) ?_
 refine AWP.seq ?_
 by_cases hlt : (i : Int) < s.ed.length
 ·have hw1 : IntKind.i64.wrap ((i : Int) + 1) = ((i + 1 : Nat) : Int) := by rw [wrap_i64 (by omega) (by omega)]; rfl
  have hi2 : i < s.ed.length := by omega
  obtain ⟨hc1, hc2⟩ := hcl i hi2
  obtain ⟨d, hd⟩ : ∃ d, s.ed[i] = d := ⟨_, rfl⟩
  rw [hd] at hc1 hc2
  have hdm2 : d ∈ s.ed := by rw [← hd]; exact List.getElem_mem hi2
  have hEd' : hh (b + 2) = some ⟨ev, (s.ed.map encEd).flatten.map Cell.p ++ Te⟩ := hEd
  generalize hL : (s.ed.map encEd).flatten.map Cell.p ++ Te = L at hEd' hc1 hc2 hcl2
  have hle : i * 5 + 5 ≤ L.length := by omega
  have hsc := same_cell hc1
  refine Btf @hlt ?_
  refine AWP.skip ?_
  refine Ev ?_
  refine AWP.seq ?_
  refine AWP.block ?_
  refine Rgf (jn5 @e26 @e28 @hEd' @hlt @hc2) (fun E K hE hK => ?_)
  repeat (refine ⟨by omega, ?_⟩)
  refine hK _ _ _ ?_; clear hE hK K E
  refine AWP.rgD [38] [OctV d.data] [b + 2] mixed (by kernel_rfl) (by kernel_rfl) (fun K hK => ?_) (by kernel_rfl); simp -implicitDefEqProofs only [go_sem, ↓reduceIte, Nat.reduceEqDiff, Nat.reduceAdd, Nat.reduceLT, Nat.reduceLeDiff, reduceCtorEq, Int.toNat_natCast, e1, hM, hEd', hlt, hsc]
  refine CallP.use (fun _ _ _ => (clone_oc_ok (d.data.map encO) (okEs_oct d.data) _ _ (by rw [List.length_map]; have := z.data d hdm2; omega)).rowFrz (okEs_oct d.data)) body_83 ?_
  refine Evf (jn2 @hEd' @hsc) ?_
  refine ⟨⟨by omega, by omega⟩, by omega, sub_at _ (by exact Erf @hEd'), ?_⟩
  refine hK _ _ _ ?_; clear hK K
  refine Ev ?_
  refine Raf (jn2 @e28 @hw1) (fun E K hE hK => ?_); refine hK _ _ _ ?_; clear hE hK K E
  refine ⟨(by decide : 5 ≤ 6), s.ed.length - (i + 1), by omega, i + 1, by omega, rfl, ⟨cutH_same (Nat.lt_add_of_pos_right (by decide)) (by exact Erf @hM) (by simp [lowCs, lowC]), ⟨x1, x2, x3, x4, x5, cutH_same (Nat.add_lt_add_left (by decide) _) (by exact Erf @hR) (by simp [lowCs, lowC])⟩, ?_, cutH_same (Nat.add_lt_add_left (by decide) _) (by exact Erf @hN) (lowCs_app (lowCs_p _ _) (lowCs_mono (Nat.zero_le _) k3)), cutH_same (Nat.add_lt_add_left (by decide) _) (by exact Erf @hD) (lowCs_app (lowCs_p _ _) (lowCs_mono (Nat.zero_le _) l3)), cutH_outer (Nat.le_add_right _ _) (Ouf @ho) hlow, by refine Evf @e1 ?_; exact cutV_ptr (Nat.lt_add_of_pos_right (by decide)), by refine Evf @e2 ?_; exact cutV_ptr (Nat.add_lt_add_left (by decide) _)⟩, by refine Evf @e26 ?_; exact cutV_win (Nat.add_lt_add_left (by decide) _), by exact Ecf @e27, by exact Er⟩
  rw [← hL]
  exact cutH_same (Nat.add_lt_add_left (by decide) _) (by exact Er) (lowCs_app (lowCs_p _ _) (lowCs_mono (Nat.zero_le _) g3))
 ·refine Bff @hlt ?_
  refine AWP.exit ?_
  refine Ev ?_
  refine AWP.seqReg (by kernel_rfl) (fun E K hE hK => ?_); simp -implicitDefEqProofs only [go_sem, ↓reduceIte, Nat.reduceEqDiff, Nat.reduceAdd, Nat.reduceLT, Nat.reduceLeDiff, reduceCtorEq, Int.toNat_natCast, e1, e2, hM, hR, hEd, hN, hD, rowB]
  refine hK _ _ _ ?_; clear hE hK K E
  refine AWP.ret ?_
  have low0 : ∀ (v : Nat) (es : List (List PD)) (T : List Cell), lowCs 0 T = true → ∀ (h : Heap) (LL : List (Nat × List Cell)) (i : Nat) (c d : Cell), (rowB v es T).cells[i]? = some c → (rowB v es T).cells[i]? = some d → renC h b LL c d := fun v es T hT h LL i c d q1 q2 => by
   rw [q1] at q2; injection q2 with q2
   exact .inl ⟨q2, lowCs_mem (lowCs_app (lowCs_p _ _) (lowCs_mono (Nat.zero_le _) hT)) c (List.mem_of_getElem? q1)⟩
  refine Ends.keepL [(b + 2, rowB ev (s.ed.map encEd) Te, (rowB ev (s.ed.map encEd) Te).cells), (b + 3, rowB nv (s.names.map encS) Tn, (rowB nv (s.names.map encS) Tn).cells), (b + 4, rowB dv (s.dirs.map encS) Td, (rowB dv (s.dirs.map encS) Td).cells)] rfl H (Ouf @ho) (fun x hx => ?_) (by simp) (r0 := .agg [.p (.v (.int .u64 s.gen)), .p (.sl 6 (s.t.map encF)), .win (b + 2) ev 0 s.ed.length ec, .win (b + 3) nv 0 s.names.length nc, .win (b + 4) dv 0 s.dirs.length dc]) (by rw [show Tryz.f110.results.toList = [.cell 2 63] from rfl]; exact Erf @e2) (r := .agg [.p (.v (.int .u64 s.gen)), .p (.sl 6 (s.t.map encF)), .win b ev 0 s.ed.length ec, .win (b + 1) nv 0 s.names.length nc, .win (b + 2) dv 0 s.dirs.length dc]) (.agg rfl (fun i c d hc hd => ?_)) (fun h' hk hlo => ?_)
  ·simp only [List.mem_cons, List.not_mem_nil, or_false] at hx
   rcases hx with rfl | rfl | rfl
   ·exact ⟨Nat.le_add_right _ _, by exact Erf @hEd, rfl, fun i c d q1 q2 => low0 _ _ _ g3 _ _ i c d q1 q2⟩
   ·exact ⟨Nat.le_add_right _ _, by exact Erf @hN, rfl, fun i c d q1 q2 => low0 _ _ _ k3 _ _ i c d q1 q2⟩
   ·exact ⟨Nat.le_add_right _ _, by exact Erf @hD, rfl, fun i c d q1 q2 => low0 _ _ _ l3 _ _ i c d q1 q2⟩
  ·match i with
   | 0 | 1 => simp at hc hd; subst hc; subst hd; exact renC_p _
   | 2 => simp at hc hd; subst hc; subst hd; exact .inr (.inr (.inr (.inl ⟨0, b + 2, _, ev, 0, _, ec, rfl, rfl, rfl⟩)))
   | 3 => simp at hc hd; subst hc; subst hd; exact .inr (.inr (.inr (.inl ⟨1, b + 3, _, nv, 0, _, nc, rfl, rfl, rfl⟩)))
   | 4 => simp at hc hd; subst hc; subst hd; exact .inr (.inr (.inr (.inl ⟨2, b + 4, _, dv, 0, _, dc, rfl, rfl, rfl⟩)))
   | i + 5 => simp at hc
  ·exact ⟨ev, ec, nv, nc, dv, dc, rfl, ⟨Te, hk 0 _ rfl, by rw [hem]; omega, g3⟩, ⟨Tn, hk 1 _ rfl, by rw [hnm]; omega, k3⟩, ⟨Td, hk 2 _ rfl, by rw [hdm]; omega, l3⟩, hlo⟩
abbrev swC (s : Sg) (e : Int) (E ev ec N nv nc D dv dc : Nat) : List Cell := [.p (.v (.int .u64 s.gen)), .p (.sl 6 (s.t.map encF)), .win E ev 0 s.ed.length ec, .win N nv 0 s.names.length nc, .win D dv 0 s.dirs.length dc, .p (.v (.int .i64 e))]
theorem RowAt.ofE {h h' : Heap} {id ver cap sz : Nat} {es : List (List PD)} (r : RowAt h id ver cap sz es) (e : h' id = h id) : RowAt h' id ver cap sz es := by
 obtain ⟨T, h1, h2, h3⟩ := r
 exact ⟨T, e.trans h1, h2, h3⟩
structure SW (h : Heap) (W E N D : Nat) (s : Sg) (e : Int) : Prop where
 w : ∃ ev ec nv nc dv dc, h W = some ⟨0, swC s e E ev ec N nv nc D dv dc⟩ ∧ RowAt h E ev ec 5 (s.ed.map encEd) ∧ RowAt h N nv nc 1 (s.names.map encS) ∧ RowAt h D dv dc 1 (s.dirs.map encS)
 d1 : ¬ W = E
 d2 : ¬ W = N
 d3 : ¬ W = D
 d4 : ¬ E = N
 d5 : ¬ E = D
 d6 : ¬ N = D
theorem SW.of {h h' : Heap} {W E N D : Nat} {s : Sg} {e : Int} (w : SW h W E N D s e) (e1 : h' W = h W) (e2 : h' E = h E) (e3 : h' N = h N) (e4 : h' D = h D) : SW h' W E N D s e := by
 obtain ⟨ev, ec, nv, nc, dv, dc, w1, w2, w3, w4⟩ := w.w
 exact ⟨⟨ev, ec, nv, nc, dv, dc, e1.trans w1, w2.ofE e2, w3.ofE e3, w4.ofE e4⟩, w.d1, w.d2, w.d3, w.d4, w.d5, w.d6⟩
abbrev seC (e : Int) : List Cell := [.p (.v (.int .u64 0)), .p (.sl 6 []), .p (.sl 5 []), .p (.sl 1 []), .p (.sl 1 []), .p (.v (.int .i64 e))]
def startI (s : Sg) (names : List S) (h : Heap) (b i : Nat) (st : St) : Prop :=
 (∀ id, id < b → st.h id = h id) ∧ st.h b = some ⟨0, (encSg s).map .p⟩ ∧ st.h (b + 1) = some ⟨0, [.p (.v (.int .u64 0)), .p (.v (.slice none 0 0)), .p (.v (.slice none 0 0)), .p (.v (.slice none 0 0)), .p (.v (.slice none 0 0)), .p (.v (.int .i64 ((names.take i).foldl (fun e p => if e = 0 then chkN p else e) (checkS keyR s))))]⟩ ∧
  st.t 2 = .one (.ptr b 0 0) ∧ st.t 5 = .one (.ptr (b + 1) 0 0) ∧ st.t 12 = ListV names ∧ st.t 13 = IntV names.length ∧ st.t 14 = IntV (i : Nat)
theorem sstartBad_ok (s : Sg) (names : List S) (z : SzS s) (hnl : names.length ≤ 1000) (hs : startS keyR s names ≠ 0) (h : Heap) (b : Nat) :
  ACalls Tryz.prog 57 [SgV s, ListV names] h b 1 (fun r h' => r = .one (.ptr b 0 0) ∧ h' = upd h b ⟨0, seC (startS keyR s names)⟩) := by
 refine ACalls.enter Tryz.func57 rfl (by simp [Tryz.ntmps57]) (fun ι w hn H => ?_)
 have hlow := H.lowCells
 have hnm : (names.map encS).length = names.length := List.length_map _
 refine Rk ?_
 refine Rg (fun E K hE hK => ?_)
 refine Us (sCheck_ok s z.t z.ed z.nm z.dr _ _) body_35 ?_
 refine hK _ _ _ ?_; clear hE hK K E
 refine AWP.seq ?_
 refine Rkf @hnm ?_
 refine AWP.block ?_
 refine AWP.loopM 2 (fun k st => ∃ i, i ≤ names.length ∧ k = names.length - i ∧ startI s names h b i st) names.length rfl ⟨0, Nat.zero_le _, rfl, Ou, by exact Er, by exact Er, by exact Er, by exact Er, by exact Er, by exact Er, by exact Er⟩ ?_
 rintro k ⟨t, hh, n⟩ ⟨i, hi, rfl, ho, hB, hW, e2, e5, e12, e13, e14⟩ hn1
 simp only at ho hB hW e2 e5 e12 e13 e14 hn1
 subst hn1
 refine Rkf (jn2 @e13 @e14) ?_
 refine AWP.seq ?_
 by_cases hlt : (i : Int) < names.length
 ·have hw1 : IntKind.i64.wrap ((i : Int) + 1) = ((i + 1 : Nat) : Int) := by rw [wrap_i64 (by omega) (by omega)]; rfl
  have hi2 : i < names.length := by omega
  have hge : (names.map encS).getD i [] = encS names[i] := getD_map encS names i hi2
  obtain ⟨p, hp⟩ : ∃ p, names[i] = p := ⟨_, rfl⟩
  rw [hp] at hge
  obtain ⟨e, he⟩ : ∃ e, (names.take i).foldl (fun e p => if e = 0 then chkN p else e) (checkS keyR s) = e := ⟨_, rfl⟩
  have hnext : (names.take (i + 1)).foldl (fun e p => if e = 0 then chkN p else e) (checkS keyR s) = if e = 0 then chkN p else e := by
   rw [List.take_add_one, List.getElem?_eq_getElem hi2, hp, List.foldl_append, he]; rfl
  rw [he] at hW
  refine Btf @hlt ?_
  refine AWP.skip ?_
  refine Ev ?_
  refine AWP.seq ?_
  refine AWP.block ?_
  refine AWP.seqReg (by kernel_rfl) (fun E K hE hK => ?_); simp -implicitDefEqProofs only [go_sem, ↓reduceIte, Nat.reduceEqDiff, Nat.reduceAdd, Nat.reduceLT, Nat.reduceLeDiff, reduceCtorEq, Int.toNat_natCast, e12, e14, hnm, hlt, hge, encS]
  refine ⟨by omega, ?_⟩
  refine hK _ _ _ ?_; clear hE hK K E
  by_cases c : e = 0
  ·have c' : (e = 0) = True := eq_true c
   refine Rkf (jn3 @e5 @hW @c') ?_
   refine Bt ?_
   refine Raf (jn2 @e5 @hW) (fun E K hE hK => ?_)
   refine Us (Check_ok (mkS p) _ _) body_31 ?_
   refine Evf (jn3 @mkS_list @e5 @hW) ?_
   refine hK _ _ _ ?_; clear hE hK K E
   refine Ev ?_
   refine Raf (jn2 @e14 @hw1) (fun E K hE hK => ?_); refine hK _ _ _ ?_; clear hE hK K E
   exact ⟨Nat.le_refl _, names.length - (i + 1), by omega, i + 1, by omega, rfl, cutH_outer (Nat.le_add_right _ _) (Ouf @ho) hlow, cutH_same (Nat.lt_add_of_pos_right (by decide)) (by exact Erf @hB) (by simp [lowCs, lowC]), by rw [hnext, if_pos c]; exact cutH_same (Nat.add_lt_add_left (by decide) _) (by exact Er) (by simp [lowCs, lowC]), by refine Evf @e2 ?_; exact cutV_ptr (Nat.lt_add_of_pos_right (by decide)), by refine Evf @e5 ?_; exact cutV_ptr (Nat.add_lt_add_left (by decide) _), by exact Ecf @e12, by exact Ecf @e13, by exact Er⟩
  ·have c' : (e = 0) = False := eq_false c
   refine Rkf (jn3 @e5 @hW @c') ?_
   refine Bf ?_
   refine AWP.skip ?_
   refine Ev ?_
   refine Raf (jn2 @e14 @hw1) (fun E K hE hK => ?_); refine hK _ _ _ ?_; clear hE hK K E
   exact ⟨Nat.le_refl _, names.length - (i + 1), by omega, i + 1, by omega, rfl, cutH_outer (Nat.le_add_right _ _) (Ouf @ho) hlow, cutH_same (Nat.lt_add_of_pos_right (by decide)) (by exact Erf @hB) (by simp [lowCs, lowC]), by rw [hnext, if_neg c]; exact cutH_same (Nat.add_lt_add_left (by decide) _) (by exact Erf @hW) (by simp [lowCs, lowC]), by refine Evf @e2 ?_; exact cutV_ptr (Nat.lt_add_of_pos_right (by decide)), by refine Evf @e5 ?_; exact cutV_ptr (Nat.add_lt_add_left (by decide) _), by exact Ecf @e12, by exact Ecf @e13, by exact Er⟩
 ·refine Bff @hlt ?_
  refine AWP.exit ?_
  refine Ev ?_
  have hil : i = names.length := by omega
  have hst : (names.take i).foldl (fun e p => if e = 0 then chkN p else e) (checkS keyR s) = startS keyR s names := by rw [hil, List.take_length]; rfl
  rw [hst] at hW
  have c' : (startS keyR s names = 0) = False := eq_false hs
  refine AWP.seq ?_
  refine Rkf (jn3 @e5 @hW @c') ?_
  refine Bs ?_
  refine Rkf @e5 ?_
  refine AWP.nilsAt (b + 1) (cs := seC (startS keyR s names)) hW ⟨.inl rfl, .nil 6, .nil 5, .nil 1, .nil 1, .inl rfl, trivial⟩ ?_
  refine AWP.ret ?_
  exact Ends.row (id := b + 1) (blk := ⟨0, seC (startS keyR s names)⟩) hn H (Ouf @ho) (Nat.le_succ _) (upd_same _ _ _) (by simp [lowCs, lowC]) (r0 := .one (.ptr (b + 1) 0 0)) (by rw [show Tryz.f57.results.toList = [.tmp 4] from rfl]; exact Er) (.one (.inr (.inr (.inr (.inr ⟨0, b + 1, _, 0, 0, rfl, rfl, rfl⟩))))) ⟨rfl, rfl⟩
theorem sstart_ok (s : Sg) (names : List S) (z : SzS s) (hnl : names.length ≤ 1000) (hs : startS keyR s names = 0) (h : Heap) (b : Nat) :
  ACalls Tryz.prog 57 [SgV s, ListV names] h b 4 (fun r h' => r = .one (.ptr b 0 0) ∧ SW h' b (b + 1) (b + 2) (b + 3) s 0 ∧ ∀ id, id < b → h' id = h id) := by
 refine ACalls.enter Tryz.func57 rfl (by simp [Tryz.ntmps57]) (fun ι w hn H => ?_)
 have hlow := H.lowCells
 have hnm : (names.map encS).length = names.length := List.length_map _
 refine Rk ?_
 refine Rg (fun E K hE hK => ?_)
 refine Us (sCheck_ok s z.t z.ed z.nm z.dr _ _) body_35 ?_
 refine hK _ _ _ ?_; clear hE hK K E
 refine AWP.seq ?_
 refine Rkf @hnm ?_
 refine AWP.block ?_
 refine AWP.loopM 2 (fun k st => ∃ i, i ≤ names.length ∧ k = names.length - i ∧ startI s names h b i st) names.length rfl ⟨0, Nat.zero_le _, rfl, Ou, by exact Er, by exact Er, by exact Er, by exact Er, by exact Er, by exact Er, by exact Er⟩ ?_
 rintro k ⟨t, hh, n⟩ ⟨i, hi, rfl, ho, hB, hW, e2, e5, e12, e13, e14⟩ hn1
 simp only at ho hB hW e2 e5 e12 e13 e14 hn1
 subst hn1
 refine Rkf (jn2 @e13 @e14) ?_
 refine AWP.seq ?_
 by_cases hlt : (i : Int) < names.length
 ·have hw1 : IntKind.i64.wrap ((i : Int) + 1) = ((i + 1 : Nat) : Int) := by rw [wrap_i64 (by omega) (by omega)]; rfl
  have hi2 : i < names.length := by omega
  have hge : (names.map encS).getD i [] = encS names[i] := getD_map encS names i hi2
  obtain ⟨p, hp⟩ : ∃ p, names[i] = p := ⟨_, rfl⟩
  rw [hp] at hge
  obtain ⟨e, he⟩ : ∃ e, (names.take i).foldl (fun e p => if e = 0 then chkN p else e) (checkS keyR s) = e := ⟨_, rfl⟩
  have hnext : (names.take (i + 1)).foldl (fun e p => if e = 0 then chkN p else e) (checkS keyR s) = if e = 0 then chkN p else e := by
   rw [List.take_add_one, List.getElem?_eq_getElem hi2, hp, List.foldl_append, he]; rfl
  rw [he] at hW
  refine Btf @hlt ?_
  refine AWP.skip ?_
  refine Ev ?_
  refine AWP.seq ?_
  refine AWP.block ?_
  refine AWP.seqReg (by kernel_rfl) (fun E K hE hK => ?_); simp -implicitDefEqProofs only [go_sem, ↓reduceIte, Nat.reduceEqDiff, Nat.reduceAdd, Nat.reduceLT, Nat.reduceLeDiff, reduceCtorEq, Int.toNat_natCast, e12, e14, hnm, hlt, hge, encS]
  refine ⟨by omega, ?_⟩
  refine hK _ _ _ ?_; clear hE hK K E
  by_cases c : e = 0
  ·have c' : (e = 0) = True := eq_true c
   refine Rkf (jn3 @e5 @hW @c') ?_
   refine Bt ?_
   refine Raf (jn2 @e5 @hW) (fun E K hE hK => ?_)
   refine Us (Check_ok (mkS p) _ _) body_31 ?_
   refine Evf (jn3 @mkS_list @e5 @hW) ?_
   refine hK _ _ _ ?_; clear hE hK K E
   refine Ev ?_
   refine Raf (jn2 @e14 @hw1) (fun E K hE hK => ?_); refine hK _ _ _ ?_; clear hE hK K E
   exact ⟨Nat.le_refl _, names.length - (i + 1), by omega, i + 1, by omega, rfl, cutH_outer (Nat.le_add_right _ _) (Ouf @ho) hlow, cutH_same (Nat.lt_add_of_pos_right (by decide)) (by exact Erf @hB) (by simp [lowCs, lowC]), by rw [hnext, if_pos c]; exact cutH_same (Nat.add_lt_add_left (by decide) _) (by exact Er) (by simp [lowCs, lowC]), by refine Evf @e2 ?_; exact cutV_ptr (Nat.lt_add_of_pos_right (by decide)), by refine Evf @e5 ?_; exact cutV_ptr (Nat.add_lt_add_left (by decide) _), by exact Ecf @e12, by exact Ecf @e13, by exact Er⟩
  ·have c' : (e = 0) = False := eq_false c
   refine Rkf (jn3 @e5 @hW @c') ?_
   refine Bf ?_
   refine AWP.skip ?_
   refine Ev ?_
   refine Raf (jn2 @e14 @hw1) (fun E K hE hK => ?_); refine hK _ _ _ ?_; clear hE hK K E
   exact ⟨Nat.le_refl _, names.length - (i + 1), by omega, i + 1, by omega, rfl, cutH_outer (Nat.le_add_right _ _) (Ouf @ho) hlow, cutH_same (Nat.lt_add_of_pos_right (by decide)) (by exact Erf @hB) (by simp [lowCs, lowC]), by rw [hnext, if_neg c]; exact cutH_same (Nat.add_lt_add_left (by decide) _) (by exact Erf @hW) (by simp [lowCs, lowC]), by refine Evf @e2 ?_; exact cutV_ptr (Nat.lt_add_of_pos_right (by decide)), by refine Evf @e5 ?_; exact cutV_ptr (Nat.add_lt_add_left (by decide) _), by exact Ecf @e12, by exact Ecf @e13, by exact Er⟩
 ·refine Bff @hlt ?_
  refine AWP.exit ?_
  refine Ev ?_
  have hil : i = names.length := by omega
  have hst : (names.take i).foldl (fun e p => if e = 0 then chkN p else e) (checkS keyR s) = startS keyR s names := by rw [hil, List.take_length]; rfl
  rw [hst] at hW
  have c' : (startS keyR s names = 0) = True := eq_true hs
  rw [hs] at hW
  refine AWP.seq ?_
  refine Rkf (jn2 @e5 @hW) ?_
  refine Bt ?_
  refine AWP.reg (by kernel_rfl) (fun E K hE hK => ?_); simp -implicitDefEqProofs only [go_sem, ↓reduceIte, Nat.reduceEqDiff, Nat.reduceAdd, Nat.reduceLT, Nat.reduceLeDiff, reduceCtorEq, Int.toNat_natCast, e2, e5, hB, encSg]
  refine CallR.use (sown_ok s z _ _) body_110 ?_
  rintro _ h2 ⟨ev, ec, nv, nc, dv, dc, rfl, r1, r2, r3, ho2⟩
  have hW2 := (ho2 (b + 1) (show b + 1 < b + 2 by omega)).trans hW
  refine Evf (jn2 @e5 @hW2) ?_
  obtain ⟨Te, qe1, qe2, qe3⟩ := r1
  obtain ⟨Tn, qn1, qn2, qn3⟩ := r2
  obtain ⟨Td, qd1, qd2, qd3⟩ := r3
  have vE : ∀ v es T, (rowB v es T).ver = v := fun _ _ _ => rfl
  refine ⟨by rw [show h2 (b + 2) = _ from qe1, show h2 (b + 2 + 1) = _ from qn1, show h2 (b + 2 + 2) = _ from qd1]; simp [vE], ?_⟩
  refine hK _ _ _ ?_; clear hE hK K E
  refine Ev ?_
  refine Rkf @e5 ?_
  refine AWP.ret ?_
  have hWE : ∀ blk : Blk, upd h2 (b + 1) blk (b + 2) = some (rowB ev (s.ed.map encEd) Te) := fun blk => (upd_ne _ _ _ _ (by omega)).trans qe1
  have hWN : ∀ blk : Blk, upd h2 (b + 1) blk (b + 3) = some (rowB nv (s.names.map encS) Tn) := fun blk => (upd_ne _ _ _ _ (by omega)).trans qn1
  have hWD : ∀ blk : Blk, upd h2 (b + 1) blk (b + 4) = some (rowB dv (s.dirs.map encS) Td) := fun blk => (upd_ne _ _ _ _ (by omega)).trans qd1
  have low0 : ∀ (v : Nat) (es : List (List PD)) (T : List Cell), lowCs 0 T = true → ∀ (h : Heap) (LL : List (Nat × List Cell)) (i : Nat) (c d : Cell), (rowB v es T).cells[i]? = some c → (rowB v es T).cells[i]? = some d → renC h b LL c d := fun v es T hT h LL i c d q1 q2 => by
   rw [q1] at q2; injection q2 with q2
   exact .inl ⟨q2, lowCs_mem (lowCs_app (lowCs_p _ _) (lowCs_mono (Nat.zero_le _) hT)) c (List.mem_of_getElem? q1)⟩
  refine Ends.keepL [(b + 1, ⟨0, swC s 0 (b + 2) ev ec (b + 3) nv nc (b + 4) dv dc⟩, swC s 0 (b + 1) ev ec (b + 2) nv nc (b + 3) dv dc), (b + 2, rowB ev (s.ed.map encEd) Te, (rowB ev (s.ed.map encEd) Te).cells), (b + 3, rowB nv (s.names.map encS) Tn, (rowB nv (s.names.map encS) Tn).cells), (b + 4, rowB dv (s.dirs.map encS) Td, (rowB dv (s.dirs.map encS) Td).cells)] rfl H
   (fun id hid => (upd_ne _ _ _ _ (by show ¬ id = b + 1; have hid' : id < b := hid; omega)).trans ((ho2 id (by have hid' : id < b := hid; show id < b + 2; omega)).trans (ho id hid))) (fun x hx => ?_) (by simp) (r0 := .one (.ptr (b + 1) 0 0)) (by rw [show Tryz.f57.results.toList = [.tmp 4] from rfl]; exact Er) (r := .one (.ptr b 0 0)) (.one (.inr (.inr (.inr (.inr ⟨0, b + 1, _, 0, 0, rfl, rfl, rfl⟩))))) (fun h' hk hlo => ?_)
  ·simp only [List.mem_cons, List.not_mem_nil, or_false] at hx
   rcases hx with rfl | rfl | rfl | rfl
   ·refine ⟨Nat.le_add_right _ _, upd_same _ _ _, rfl, fun i c d q1 q2 => ?_⟩
    match i with
    | 0 | 1 | 5 => simp at q1 q2; subst q1; subst q2; exact renC_p _
    | 2 => simp at q1 q2; subst q1; subst q2; exact .inr (.inr (.inr (.inl ⟨1, b + 2, _, ev, 0, _, ec, rfl, rfl, rfl⟩)))
    | 3 => simp at q1 q2; subst q1; subst q2; exact .inr (.inr (.inr (.inl ⟨2, b + 3, _, nv, 0, _, nc, rfl, rfl, rfl⟩)))
    | 4 => simp at q1 q2; subst q1; subst q2; exact .inr (.inr (.inr (.inl ⟨3, b + 4, _, dv, 0, _, dc, rfl, rfl, rfl⟩)))
    | i + 6 => simp at q1
   ·exact ⟨Nat.le_add_right _ _, hWE _, rfl, fun i c d q1 q2 => low0 _ _ _ qe3 _ _ i c d q1 q2⟩
   ·exact ⟨Nat.le_add_right _ _, hWN _, rfl, fun i c d q1 q2 => low0 _ _ _ qn3 _ _ i c d q1 q2⟩
   ·exact ⟨Nat.le_add_right _ _, hWD _, rfl, fun i c d q1 q2 => low0 _ _ _ qd3 _ _ i c d q1 q2⟩
  ·exact ⟨rfl, ⟨⟨ev, ec, nv, nc, dv, dc, hk 0 _ rfl, ⟨Te, hk 1 _ rfl, qe2, qe3⟩, ⟨Tn, hk 2 _ rfl, qn2, qn3⟩, ⟨Td, hk 3 _ rfl, qd2, qd3⟩⟩, by show ¬ b = b + 1; omega, by show ¬ b = b + 2; omega, by show ¬ b = b + 3; omega, by show ¬ b + 1 = b + 2; omega, by show ¬ b + 1 = b + 3; omega, by show ¬ b + 2 = b + 3; omega⟩, hlo⟩
theorem sFindO_ok (l : List S) (p : S) (hr : Ris nmQ l) (hl : l.length ≤ 1000000) (hc : ∀ x ∈ l, okG x) (hp : okG p) {h : Heap} {R ver cap : Nat} (r : RowAt h R ver cap 1 (l.map encS)) (b : Nat) :
  ACalls Tryz.prog 115 [.one (.win R ver 0 l.length cap), StrV p, .one (.clo (.func 65) [] [])] h b 0 (fun r h' => r = .tup [IntV (posK nmQ p l), BoolV (getK nmQ p l).isSome] ∧ h' = h) := by
 obtain ⟨T, h1, _, _⟩ := r
 have hlm : (l.map encS).length = l.length := List.length_map _
 have vw := view_rowT (h := h) (D := fun _ => true) (id := R) (ver := ver) (sz := 1) (m := l.length) (j := 0) (off := 0) (cap := cap) rfl h1 (okEs_str l) (by rw [hlm]; omega) rfl
 rw [List.drop_zero, ← hlm, List.take_length, hlm] at vw
 exact (sFindG_ok l p hr hl hc hp noH b).lend (.cons (.one vw) (.cons (.same _) (.cons (.same _) .nil))) (.tup (fun v hv => by
  simp at hv
  rcases hv with rfl | rfl
  ·exact ⟨_, rfl⟩
  ·exact ⟨_, rfl⟩))
theorem eFindO_ok (l : List Ed) (p : S) (hr : Ris nmE l) (hl : l.length ≤ 1000000) (hc : ∀ x ∈ l, chkN x.name = 0) (hp : okG p) {h : Heap} {R ver cap : Nat} (r : RowAt h R ver cap 5 (l.map encEd)) (b : Nat) :
  ACalls Tryz.prog 111 [.one (.win R ver 0 l.length cap), StrV p, .one (.clo (.func 88) [] [])] h b 0 (fun r h' => r = .tup [IntV (posK nmE p l), BoolV (getK nmE p l).isSome] ∧ h' = h) := by
 obtain ⟨T, h1, _, _⟩ := r
 have hlm : (l.map encEd).length = l.length := List.length_map _
 have vw := view_rowT (h := h) (D := fun _ => true) (id := R) (ver := ver) (sz := 5) (m := l.length) (j := 0) (off := 0) (cap := cap) rfl h1 (okEs_ed l) (by rw [hlm]; omega) rfl
 rw [List.drop_zero, ← hlm, List.take_length, hlm] at vw
 exact (eFind_ok l p hr hl hc hp noH b).lend (.cons (.one vw) (.cons (.same _) (.cons (.same _) .nil))) (.tup (fun v hv => by
  simp at hv
  rcases hv with rfl | rfl
  ·exact ⟨_, rfl⟩
  ·exact ⟨_, rfl⟩))
theorem putQ_has {l : List S} (hr : Ris nmQ l) {p : S} (h : (getK nmQ p l).isSome = true) : putQ l p = l := by
 obtain ⟨x, hx⟩ := Option.isSome_iff_exists.1 h
 have := splitK (p := p) hr
 rw [hx, show x = p from (getK_mem hx).2] at this
 exact this.symm
theorem putQ_new {l : List S} (hr : Ris nmQ l) {p : S} (h : ¬ (getK nmQ p l).isSome = true) : putQ l p = l.take (posK nmQ p l) ++ ([p] ++ l.drop (posK nmQ p l)) := by
 have hn : getK nmQ p l = none := by simpa using h
 rw [takeK hr, dropK hr, hn]
 rfl
def putE (l : List S) (e : Int) (p : S) : List S × Int := if (getK nmQ p l).isSome = true ∨ e ≠ 0 then (l, e) else if l.length = 1024 then (l, 6) else (putQ l p, e)
theorem sput_ok (s : Sg) (e : Int) (xs : List S) (p : S) (hr : Ris nmQ xs) (hl : xs.length ≤ 1000000) (hc : ∀ x ∈ xs, okG x) (hp : okG p) (h : Heap) (b W X xv xc E ev ec N nv nc D dv dc : Nat) (hW : W < b) (hX : X < b) (hWX : ¬ W = X) (hE : E < b) (hN : N < b) (hD : D < b)
  (hw : h W = some ⟨0, swC s e E ev ec N nv nc D dv dc⟩) (hrow : RowAt h X xv xc 1 (xs.map encS)) :
  ACalls Tryz.prog 63 [.one (.ptr W 0 0), .one (.win X xv 0 xs.length xc), StrV p] h b 0
   (fun r h' => ∃ xv' xc', r = .one (.win X xv' 0 (putE xs e p).1.length xc') ∧ h' W = some ⟨0, swC s (putE xs e p).2 E ev ec N nv nc D dv dc⟩ ∧ RowAt h' X xv' xc' 1 ((putE xs e p).1.map encS) ∧ ∀ id, id < b → id ≠ W → id ≠ X → h' id = h id) := by
 refine ACalls.enter Tryz.func63 rfl (by simp [Tryz.ntmps63]) (fun ι w hn H => ?_)
 have hlow := H.lowCells
 have hxm : (xs.map encS).length = xs.length := List.length_map _
 have hXW : ¬ X = W := fun e => hWX e.symm
 have hrow0 := hrow
 obtain ⟨T, t1, t2, t3⟩ := hrow
 have fin : ∀ (t : Nat → AV) (hh : Heap) (n xv' xc' : Nat) (l' : List S) (e' : Int), (l', e') = putE xs e p → t 6 = .one (.win X xv' 0 l'.length xc') → hh W = some ⟨0, swC s e' E ev ec N nv nc D dv dc⟩ → RowAt hh X xv' xc' 1 (l'.map encS) → (∀ id, id < b → id ≠ W → id ≠ X → hh id = h id) →
   Am.Ends Tryz.prog ⟨Tryz.f63.ntmps, b, ι, h, w, x0⟩ Tryz.f63 0 (fun r h' => ∃ xv' xc', r = .one (.win X xv' 0 (putE xs e p).1.length xc') ∧ h' W = some ⟨0, swC s (putE xs e p).2 E ev ec N nv nc D dv dc⟩ ∧ RowAt h' X xv' xc' 1 ((putE xs e p).1.map encS) ∧ ∀ id, id < b → id ≠ W → id ≠ X → h' id = h id) ⟨t, hh, n⟩ := by
  intro t hh n xv' xc' l' e' he ht g1 g2 ho
  rw [← he]
  have hlo : ∀ id, id < b → lowH b hh id = hh id := fun id hid => by unfold lowH; rw [if_pos hid]
  refine Ends.low (by rw [show Tryz.f63.results.toList = [.tmp 6] from rfl]; exact Ecf @ht) (.one (.inl ⟨rfl, by simp [lowC, hX]⟩)) (fun id hid blk eb c hc => ?_) ⟨xv', xc', rfl, by rw [hlo W hW]; exact g1, g2.ofE (hlo X hX), fun id hid n1 n2 => by rw [hlo id hid]; exact ho id hid n1 n2⟩
  have hid' : id < b := hid
  by_cases e1 : id = W
  ·subst e1
   have eb' : hh id = some blk := eb
   rw [g1] at eb'; injection eb' with eb'; subst eb'
   exact lowCs_mem (by simp [lowCs, lowC, hE, hN, hD]) c hc
  ·by_cases e2 : id = X
   ·subst e2
    obtain ⟨T', z1, z2, z3⟩ := g2
    have eb' : hh id = some blk := eb
    rw [z1] at eb'; injection eb' with eb'; subst eb'
    exact lowCs_mem (lowCs_app (lowCs_p _ _) (lowCs_mono (Nat.zero_le _) z3)) c hc
   ·have eb' : hh id = some blk := eb
    rw [ho id hid' e1 e2] at eb'
    exact hlow id blk eb' c hc
 refine Rk ?_
 refine AWP.seqReg (by kernel_rfl) (fun E K hE hK => ?_); simp -implicitDefEqProofs only [go_sem, ↓reduceIte, Nat.reduceEqDiff, Nat.reduceAdd, Nat.reduceLT, Nat.reduceLeDiff, reduceCtorEq, Int.toNat_natCast, t1, rowB]
 refine Us (sFindO_ok xs p hr hl hc hp hrow0 _) body_115 ?_
 refine hK _ _ _ ?_; clear hE hK K E
 refine AWP.seq ?_
 cases hf : (getK nmQ p xs).isSome
 case true =>
  refine Rkf @hf ?_
  refine Bt ?_
  refine Rk ?_
  refine AWP.ret ?_
  refine Ev ?_
  exact fin _ _ _ xv xc xs e (by unfold putE; rw [if_pos (.inl hf)]) (by exact Er) hw hrow0 (fun _ _ _ _ => rfl)
 by_cases c : e = 0
 case neg =>
  have c' : (e = 0) = False := eq_false c
  refine Rkf (jn3 @hf @hw @c') ?_
  refine Bt ?_
  refine Rk ?_
  refine AWP.ret ?_
  refine Ev ?_
  exact fin _ _ _ xv xc xs e (by unfold putE; rw [if_pos (.inr c)]) (by exact Er) hw hrow0 (fun _ _ _ _ => rfl)
 have c' : (e = 0) = True := eq_true c
 refine Rkf (jn3 @hf @hw @c') ?_
 refine Bs ?_
 have hpe : ¬ ((getK nmQ p xs).isSome = true ∨ e ≠ 0) := by rw [hf]; simp [c]
 refine AWP.seq ?_
 by_cases cl : (xs.length : Int) = 1024
 ·have cl' : ((xs.length : Int) = 1024) = True := eq_true cl
  refine AWP.seqReg (by kernel_rfl) (fun E K hE hK => ?_); simp -implicitDefEqProofs only [go_sem, ↓reduceIte, Nat.reduceEqDiff, Nat.reduceAdd, Nat.reduceLT, Nat.reduceLeDiff, reduceCtorEq, Int.toNat_natCast, t1, rowB, cl', decide_true]; refine hK _ _ _ ?_; clear hE hK K E
  refine Bt ?_
  refine Rkf @hw ?_
  refine Rk ?_
  refine AWP.ret ?_
  refine Ev ?_
  exact fin _ _ _ xv xc xs 6 (by unfold putE; rw [if_neg hpe, if_pos (by omega)]) (by exact Er) (by exact Er) (hrow0.ofE (upd_ne _ _ _ _ hXW)) (fun id _ n1 _ => upd_ne _ _ _ _ n1)
 have cl' : ((xs.length : Int) = 1024) = False := eq_false cl
 refine AWP.seqReg (by kernel_rfl) (fun E K hE hK => ?_); simp -implicitDefEqProofs only [go_sem, ↓reduceIte, Nat.reduceEqDiff, Nat.reduceAdd, Nat.reduceLT, Nat.reduceLeDiff, reduceCtorEq, Int.toNat_natCast, t1, rowB, cl', decide_false]; refine hK _ _ _ ?_; clear hE hK K E
 refine Bs ?_
 have hkl := posK_le (nm := nmQ) p xs
 have hXb : ¬ X = b := by omega
 have hWb : ¬ W = b := by omega
 refine Rg (fun E K hE hK => ?_)
 have hb1 : (upd h b ⟨0, [Cell.p (.v (.string (mkS p)))]⟩) b = some ⟨0, [.p (.v (.string (mkS p)))]⟩ := upd_same _ _ _
 have hcap : xs.length ≤ xc := by rw [hxm] at t2; omega
 have ci := insert_str_ok (xs.map encS) [encS p] (okEs_str xs) (okEs_str [p]) (delP (upd h b ⟨0, [Cell.p (.v (.string (mkS p)))]⟩) (fun i => decide (i = b))) (b + 1) X xv xc (posK nmQ p xs) T (by omega) (by unfold delP; rw [if_neg (by simp [hXb]), upd_ne _ _ _ _ hXb]; exact t1) t3 (by rw [hxm]; exact hcap) (by omega) (by rw [hxm]; exact hkl) (by rw [hxm]; omega) (by simp)
 rw [hxm] at ci
 have cs := ci.seal (fun i => decide (i = b)) (.cons (.same _) (.cons (.same _) (.cons (.one (view_1 _ rfl (by simp) hb1)) .nil)))
 refine CallR.use cs body_116 ?_
 rintro _ _ ⟨ver', cap', T', k1, k2, k3, rfl, rfl⟩
 have hdr : (xs.map encS).take (posK nmQ p xs) ++ ([encS p] ++ (xs.map encS).drop (posK nmQ p xs)) = (putQ xs p).map encS := by rw [putQ_new hr (by rw [hf]; decide), List.map_append, List.map_append, List.map_take, List.map_drop]; rfl
 rw [hdr] at k1 k2 ⊢
 rw [List.length_map] at k1 k2 ⊢
 refine Ev ?_
 refine hK _ _ _ ?_; clear hE hK K E
 refine AWP.ret ?_
 refine fin _ _ _ ver' cap' (putQ xs p) e (by unfold putE; rw [if_neg hpe, if_neg (by omega)]) (by exact Er) ?_ ⟨T', upd_same _ _ _, by rw [List.length_map]; omega, k3⟩ (fun id hid n1 n2 => ?_)
 ·rw [upd_ne _ _ _ _ hWX]
  unfold delP
  rw [if_neg (by simp [hWb]), upd_ne _ _ _ _ hWb]; exact hw
 ·have hidb : ¬ id = b := Nat.ne_of_lt hid
  rw [upd_ne _ _ _ _ n2]
  unfold delP
  rw [if_neg (by simp [hidb]), upd_ne _ _ _ _ hidb]
def SR (h : Heap) (b W B N D : Nat) (s : Sg) (e : Int) (r0 : AV) (r : AV) (h' : Heap) : Prop :=
 r = r0 ∧ SW h' W B N D s e ∧ ∀ id, id < b → id ≠ W → id ≠ B → id ≠ N → id ≠ D → h' id = h id
theorem Ends.SR {C : Ctx} {fn : Func} {st : St} {r0 : AV} {b W B N D : Nat} {s : Sg} {e : Int} (hb : C.b = b) (H : HeapOK C.ι C.h C.b C.w) (hW : W < b) (hEb : B < b) (hN : N < b) (hD : D < b) (hw : SW st.h W B N D s e) (ho : ∀ id, id < b → id ≠ W → id ≠ B → id ≠ N → id ≠ D → st.h id = C.h id)
  (hr : resA Tryz.prog st.h st.t fn.results.toList = some r0) (hf : frzV st.h C.b r0 r0) : Am.Ends Tryz.prog C fn 0 (SR C.h b W B N D s e r0) st := by
 subst hb
 have hlo : ∀ id, id < C.b → lowH C.b st.h id = st.h id := fun id hid => by unfold lowH; rw [if_pos hid]
 refine Ends.low hr hf (fun id hid blk eb c hc => ?_) ⟨rfl, hw.of (hlo W hW) (hlo B hEb) (hlo N hN) (hlo D hD), fun id hid n1 n2 n3 n4 => by rw [hlo id hid]; exact ho id hid n1 n2 n3 n4⟩
 obtain ⟨ev, ec, nv, nc, dv, dc, w1, ⟨T1, a1, a2, a3⟩, ⟨T2, b1, b2, b3⟩, ⟨T3, c1, c2, c3⟩⟩ := hw.w
 by_cases e1 : id = W
 ·subst e1; rw [w1] at eb; injection eb with eb; subst eb
  exact lowCs_mem (by simp [lowCs, lowC, hEb, hN, hD]) c hc
 by_cases e2 : id = B
 ·subst e2; rw [a1] at eb; injection eb with eb; subst eb
  exact lowCs_mem (lowCs_app (lowCs_p _ _) (lowCs_mono (Nat.zero_le _) a3)) c hc
 by_cases e3 : id = N
 ·subst e3; rw [b1] at eb; injection eb with eb; subst eb
  exact lowCs_mem (lowCs_app (lowCs_p _ _) (lowCs_mono (Nat.zero_le _) b3)) c hc
 by_cases e4 : id = D
 ·subst e4; rw [c1] at eb; injection eb with eb; subst eb
  exact lowCs_mem (lowCs_app (lowCs_p _ _) (lowCs_mono (Nat.zero_le _) c3)) c hc
 rw [ho id hid e1 e2 e3 e4] at eb
 exact H.lowCells id blk eb c hc
theorem readS_put (s : Sg) (e : Int) (p : S) : readS s e p = ({ s with names := (putE s.names e p).1 }, (putE s.names e p).2) := by
 unfold readS putE
 split
 ·rfl
 ·split <;> rfl
theorem sread_ok (s : Sg) (e : Int) (p : S) (hr : Ris nmQ s.names) (hl : s.names.length ≤ 1000000) (hc : ∀ x ∈ s.names, okG x) (hp : okG p) (h : Heap) (b W B N D : Nat) (hW : W < b) (hEb : B < b) (hN : N < b) (hD : D < b) (hw : SW h W B N D s e) :
  ACalls Tryz.prog 58 [.one (.ptr W 0 0), StrV p] h b 0 (SR h b W B N D (readS s e p).1 (readS s e p).2 (.tup [])) := by
 refine ACalls.enter Tryz.func58 rfl (by simp [Tryz.ntmps58]) (fun ι w hn H => ?_)
 have hw0 := hw
 obtain ⟨d1, d2, d3, d4, d5, d6⟩ : (¬ W = B) ∧ (¬ W = N) ∧ (¬ W = D) ∧ (¬ B = N) ∧ (¬ B = D) ∧ (¬ N = D) := ⟨hw.d1, hw.d2, hw.d3, hw.d4, hw.d5, hw.d6⟩
 obtain ⟨ev, ec, nv, nc, dv, dc, w1, w2, w3, w4⟩ := hw.w
 rw [readS_put]
 refine Raf @w1 (fun E K hE hK => ?_)
 refine CallR.use (sput_ok s e s.names p hr hl hc hp h (b + 0) W N nv nc B ev ec N nv nc D dv dc hW hN d2 hEb hN hD w1 w3) body_63 ?_
 rintro _ h2 ⟨xv, xc, rfl, g1, g2, g3⟩
 obtain ⟨T2, q1, q2, q3⟩ := g2
 refine Evf @g1 ?_
 refine ⟨by rw [q1]; simp [rowB], ?_⟩
 refine hK _ _ _ ?_; clear hE hK K E
 have nWN : ¬ N = W := fun e => d2 e.symm
 have nWE : ¬ B = W := fun e => d1 e.symm
 have nWD : ¬ D = W := fun e => d3 e.symm
 refine Ends.SR rfl H hW hEb hN hD ⟨⟨ev, ec, xv, xc, dv, dc, upd_same _ _ _, w2.ofE ((upd_ne _ _ _ _ nWE).trans (g3 B hEb nWE d4)), ⟨T2, (upd_ne _ _ _ _ nWN).trans q1, q2, q3⟩, w4.ofE ((upd_ne _ _ _ _ nWD).trans (g3 D hD nWD (fun e => d6 e.symm)))⟩, d1, d2, d3, d4, d5, d6⟩ (fun id hid n1 n2 n3 n4 => (upd_ne _ _ _ _ n1).trans (g3 id hid n1 n3)) (by rw [show Tryz.f58.results.toList = [] from rfl]; rfl) (.tup rfl (fun i c d hc => by simp at hc))
theorem sputBad_ok (e : Int) (p : S) (he : e ≠ 0) (h : Heap) (b W : Nat) (hw : h W = some ⟨0, seC e⟩) :
  ACalls Tryz.prog 63 [.one (.ptr W 0 0), ListV [], StrV p] h b 0 (fun r h' => r = ListV [] ∧ h' = h) := by
 refine ACalls.enter Tryz.func63 rfl (by simp [Tryz.ntmps63]) (fun ι w hn H => ?_)
 have cb := fun h b => bsst_ok [] (mkS p) 65 (fun k => 0) 0 (by decide) body_65 (fun x hx => by cases hx) (Nat.le_refl _) (fun j hj => by simp at hj) (fun j hj => by simp at hj) false ⟨(fun h => by cases h), (fun h => by obtain ⟨hk, _⟩ := h; simp at hk)⟩ h b
 have c' : (e = 0) = False := eq_false he
 refine Rk ?_
 refine Rg (fun E K hE hK => ?_)
 refine Us (cb _ _) body_115 ?_
 refine hK _ _ _ ?_; clear hE hK K E
 refine AWP.seq ?_
 refine Rkf (jn2 @hw @c') ?_
 refine Bt ?_
 refine Rk ?_
 refine AWP.ret ?_
 refine Ev ?_
 exact Ends.pure hn H (fun _ _ => rfl) (r0 := ListV []) (by rw [show Tryz.f63.results.toList = [.tmp 6] from rfl]; exact Er) (.p _) ⟨rfl, rfl⟩
end Go.Proofs.YtihgnpboabpchaaGreatDoor
