/-
  Part 6 of the proof of stageReads_card: steps of the machine, walks and plain laws; each holds under the conditions that it states.
-/
import Derived.Test.YtihgnpboabpchaaGreatDoorReads5
import Derived.Test.YtihgnpboabpchaaGreatDoorReads3
import Derived.Sort.LotD1
import Derived.Sort.LotD5
import Derived.Laws.Bits64
import Derived.Laws.Bits64b
import Derived.Sort.Walk13a
import Derived.Test.YtihgnpboabpchaaGreatDoorReads4

namespace Go.Proofs.YtihgnpboabpchaaGreatDoor.PdSt
set_option linter.unusedSimpArgs false
set_option linter.unusedVariables false
set_option linter.unnecessarySimpa false
open Go Am
set_option maxRecDepth 100000
theorem partition_ok {g : FuncId} {z : El → El → Int} (cm : CmpQ g z) {h : Heap} {b id ver cap : Nat} {d0 : Array El} {T : List Cell} (k : PdAt h id ver d0 T) (hid : id < b) (a e p : Nat) (hap : a ≤ p) (hpe : p < e) (he : e ≤ d0.size) :
    ACalls Tryz.prog 166 [winQ id ver cap d0.size, IntV a, IntV e, IntV p, cloV g] h b 0
      (fun r h' => r = .tup [IntV (Sort.partition (ltZ z) d0 a e p).1, BoolV (Sort.partition (ltZ z) d0 a e p).2.1] ∧ h' = upd h id (rowQ ver (Sort.partition (ltZ z) d0 a e p).2.2 T)) := by
  refine ACalls.enter Tryz.func166 rfl (by simp [Tryz.ntmps166]) (fun ι w hn H => ?_)
  have hlow := H.lowCells
  have hz := k.size
  obtain ⟨N, hN⟩ : ∃ N, d0.size = N := ⟨_, rfl⟩
  have hrow := k.row
  have hT := k.low
  rw [hN] at hz he ⊢
  obtain ⟨R, hR⟩ : ∃ R, Sort.partition (ltZ z) d0 a e p = R := ⟨_, rfl⟩
  rw [hR]
  unfold Sort.partition at hR
  have w1 := w_add1 (a := a) (by omega)
  have w2 := w_sub1 (a := e) (by omega) (by omega)
  obtain ⟨hh, hhh⟩ : ∃ hh, hh = h := ⟨_, rfl⟩
  have hb : hh id = some (rowQ ver d0 T) := by rw [hhh]; exact hrow
  have ho : ∀ x, x < b → x ≠ id → hh x = h x := fun x _ _ => by rw [hhh]
  refine Rk ?_
  rw [show (⟨_, h, 0⟩ : St) = ⟨_, hh, 0⟩ by rw [hhh]]
  clear hhh
  rw [← hN]
  have la : a < d0.size := by omega
  have lb : p < d0.size := by omega
  have la' : ((a : Nat) : Int) < d0.size := by omega
  have lb' : ((p : Nat) : Int) < d0.size := by omega
  have hpa := celQ_get d0 T a la
  have hpb := celQ_get d0 T p lb
  have hs1 := celQ_set d0 T a la d0[p]!
  have hs2 := celQ_set (d0.setIfInBounds a d0[p]!) T p (by rw [Array.size_setIfInBounds]; exact lb) d0[a]!
  rw [show (d0.setIfInBounds a d0[p]!).setIfInBounds p d0[a]! = Sort.swp d0 a p from rfl] at hs2
  have hb' : hh id = some ⟨ver, celQ d0 T⟩ := hb
  have hlL := celQ_len d0 T
  have hlL2 := celQ_len (d0.setIfInBounds a d0[p]!) T
  rw [Array.size_setIfInBounds] at hlL2
  obtain ⟨vx, hvx⟩ : ∃ v, d0[a]! = v := ⟨_, rfl⟩
  obtain ⟨vy, hvy⟩ : ∃ v, d0[p]! = v := ⟨_, rfl⟩
  rw [hvx] at hpa hs2
  rw [hvy] at hpb hs1 hs2 hlL2
  generalize celQ (d0.setIfInBounds a vy) T = L2 at hs1 hs2 hlL2
  generalize celQ d0 T = L1 at hpa hpb hs1 hb' hlL
  refine AWP.seq ?_
  refine AWP.rgD [21, 25] [] [id] mixed (by kernel_rfl) (by kernel_rfl) (fun K hK => ?_) (by kernel_rfl); simp -implicitDefEqProofs only [go_sem, ↓reduceIte, Nat.reduceEqDiff, Nat.reduceAdd, Nat.reduceLT, Nat.reduceLeDiff, reduceCtorEq, Int.toNat_natCast, hb', hpa, hpb, la', lb', hs1, hs2]
  repeat (first | (refine ⟨⟨by omega, by omega⟩, ?_⟩) | (refine ⟨by omega, ?_⟩) | (refine ⟨sub_ers _ _, ?_⟩) | (refine ⟨sub_at _ hb', ?_⟩))
  refine hK _ _ _ ?_; clear hK K
  refine Ev ?_
  refine Rkf (jn2 @w1 @w2) ?_
  obtain ⟨d, hd⟩ : ∃ d, Sort.swp d0 a p = d := ⟨_, rfl⟩
  have hs : d.size = N := by rw [← hd, swp_size, hN]
  dsimp only at hR
  rw [hd] at hR hs2
  refine awp_st (PtAt h b id ver cap N T d a g 12 13 (a + 1) (e - 1)) ⟨rfl, ⟨hs, by exact Erf @hd, fun x hx hne => by refine Evf @hne ?_; exact ho x hx hne, by exact Ecf @hN⟩, by exact Er, by exact Er, by exact Er, by exact Er⟩ ?_
  clear hb ho hb' hpa hpb hs1 hs2 hlL hlL2 hvx hvy la lb la' lb' w1 w2 hs hd hN hh k
  rintro ⟨t, hh, n⟩ ⟨hn0, ⟨hs, hb, ho, e0⟩, e1, e4, eI, eJ⟩
  simp only at hn0 hb ho e0 e1 e4 eI eJ
  subst hn0
  refine AWP.mid (PtAt h b id ver cap N T d a g 12 13 (Sort.scanUp (fun x => ltZ z x d[a]!) d (e - 1) (a + 1)) ((e - 1))) ?_ ?_
  · refine AWP.block ?_
    obtain ⟨sx, hsx⟩ : ∃ sx, Sort.scanUp (fun x => ltZ z x d[a]!) d (e - 1) (a + 1) = sx := ⟨_, rfl⟩
    rw [hsx]
    refine AWP.loopM 0 (fun m st => ∃ x, m = (e - 1) + 1 - x ∧ a < x ∧ Sort.scanUp (fun x => ltZ z x d[a]!) d (e - 1) x = sx ∧ PtAt h b id ver cap N T d a g 12 13 (x) ((e - 1)) st) ((e - 1) + 1 - (a + 1)) rfl ⟨(a + 1), rfl, by omega, hsx, ⟨rfl, ⟨hs, hb, ho, by exact Ecf @e0⟩, by exact Ecf @e1, by exact Ecf @e4, by exact Ecf @eI, by exact Ecf @eJ⟩⟩ ?_
    clear hsx hb ho e0 e1 e4 eI eJ hs
    rintro m ⟨t, hh, n⟩ ⟨x, rfl, hax, hsx, hn0, ⟨hs, hb, ho, e0⟩, e1, e4, eI, eJ⟩ hn1
    simp only at hn0 hb ho e0 e1 e4 eI eJ hn1
    subst hn0
    rw [Sort.scanUp] at hsx
    refine AWP.seq ?_
    by_cases hle : x ≤ (e - 1)
    · have hle' : (x : Int) ≤ ((e - 1) : Nat) := by omega
      rw [← hs] at e0
      have la : x < d.size := by omega
      have lb : a < d.size := by omega
      have la' : ((x : Nat) : Int) < d.size := by omega
      have lb' : ((a : Nat) : Int) < d.size := by omega
      have hpa := celQ_get d T x la
      have hpb := celQ_get d T a lb
      have hb' : hh id = some ⟨ver, celQ d T⟩ := hb
      have hlL := celQ_len d T
      obtain ⟨vx, hvx⟩ : ∃ v, d[x]! = v := ⟨_, rfl⟩
      obtain ⟨vy, hvy⟩ : ∃ v, d[a]! = v := ⟨_, rfl⟩
      rw [hvx] at hpa
      rw [hvy] at hpb
      generalize celQ d T = L1 at hpa hpb hb' hlL
      refine AWP.seqRegDG [] [] [] mixed (drawF_ok (by kernel_rfl)) (by kernel_rfl) (fun K hK => ?_); simp -implicitDefEqProofs only [go_sem, ↓reduceIte, Nat.reduceEqDiff, Nat.reduceAdd, Nat.reduceLT, Nat.reduceLeDiff, reduceCtorEq, Int.toNat_natCast, e0, e1, e4, eI, eJ, hle', hb', hpa, hpb, la', lb']
      repeat (first | (refine Gdf 35 (jn5 @e0 @e1 @e4 @eI (jn7 @eJ @hle' @hb' @hpa @hpb @la' @lb')) ?_) | (refine ⟨by omega, ?_⟩))
      refine Ud (cm.calls vx vy _ _) cm.body ?_
      by_cases hz1 : z vx vy < 0
      · repeat (first | (refine Gdf 35 @hz1 ?_) | (refine ⟨by omega, ?_⟩))
        rw [if_pos (by show (decide (x ≤ (e - 1)) && ltZ z d[x]! d[a]!) = true; rw [hvx, hvy]; simp [hle, hz1])] at hsx
        refine hK _ _ _ ?_; clear hK K
        refine Bt ?_
        refine AWP.skip ?_
        refine Ev ?_
        refine AWP.block ?_
        have w9 := w_add1 (a := x) (by omega)
        refine Raf (jn2 @eI @w9) (fun E K hE hK => ?_); refine hK _ _ _ ?_; clear hE hK K E
        exact ⟨(e - 1) + 1 - (x + 1), by omega, x + 1, rfl, by omega, hsx, PtAt.cut hid hT hlow _ rfl ⟨rfl, ⟨hs, hb, ho, by exact Ecf (jn2 @e0 @hs)⟩, by exact Ecf @e1, by exact Ecf @e4, by exact Er, by exact Ecf @eJ⟩⟩
      · repeat (first | (refine Gdf 35 @hz1 ?_) | (refine ⟨by omega, ?_⟩))
        rw [if_neg (by show ¬ (decide (x ≤ (e - 1)) && ltZ z d[x]! d[a]!) = true; rw [hvx, hvy]; simp [hz1])] at hsx
        refine hK _ _ _ ?_; clear hK K
        refine Bf ?_
        refine AWP.exit ?_
        refine Ev ?_
        subst hsx
        exact ⟨rfl, ⟨hs, hb, ho, by exact Ecf (jn2 @e0 @hs)⟩, by exact Ecf @e1, by exact Ecf @e4, by exact Ecf @eI, by exact Ecf @eJ⟩
    · have hle' : ¬ (x : Int) ≤ ((e - 1) : Nat) := by omega
      rw [if_neg (by simp [hle])] at hsx
      refine AWP.seqRegDG [] [] [] mixed (drawF_ok (by kernel_rfl)) (by kernel_rfl) (fun K hK => ?_); simp -implicitDefEqProofs only [go_sem, ↓reduceIte, Nat.reduceEqDiff, Nat.reduceAdd, Nat.reduceLT, Nat.reduceLeDiff, reduceCtorEq, Int.toNat_natCast, e0, e1, e4, eI, eJ, hle']
      repeat (first | (refine Gdf 35 @hle' ?_) | (refine ⟨by omega, ?_⟩))
      refine hK _ _ _ ?_; clear hK K
      refine Bf ?_
      refine AWP.exit ?_
      refine Ev ?_
      subst hsx
      exact ⟨rfl, ⟨hs, hb, ho, by exact Ecf @e0⟩, by exact Ecf @e1, by exact Ecf @e4, by exact Ecf @eI, by exact Ecf @eJ⟩
  clear hb ho e0 e1 e4 eI eJ hs
  rintro ⟨t, hh, n⟩ ⟨hn0, ⟨hs, hb, ho, e0⟩, e1, e4, eI, eJ⟩
  simp only at hn0 hb ho e0 e1 e4 eI eJ
  subst hn0
  have hge := Sort.scanUp_ge (fun x => ltZ z x d[a]!) d ((e - 1)) ((a + 1))
  obtain ⟨i2, hi2⟩ : ∃ i2, Sort.scanUp (fun x => ltZ z x d[a]!) d ((e - 1)) ((a + 1)) = i2 := ⟨_, rfl⟩
  rw [hi2] at eI hR hge
  clear hi2
  refine AWP.mid (PtAt h b id ver cap N T d a g 12 13 (i2) (Sort.scanDown (fun x => !ltZ z x d[a]!) d i2 (e - 1))) ?_ ?_
  · refine AWP.block ?_
    obtain ⟨sx, hsx⟩ : ∃ sx, Sort.scanDown (fun x => !ltZ z x d[a]!) d i2 (e - 1) = sx := ⟨_, rfl⟩
    rw [hsx]
    refine AWP.loopM 0 (fun x st => x ≤ (e - 1) ∧ Sort.scanDown (fun x => !ltZ z x d[a]!) d i2 x = sx ∧ PtAt h b id ver cap N T d a g 12 13 (i2) (x) st) ((e - 1)) rfl ⟨Nat.le_refl _, hsx, ⟨rfl, ⟨hs, hb, ho, by exact Ecf @e0⟩, by exact Ecf @e1, by exact Ecf @e4, by exact Ecf @eI, by exact Ecf @eJ⟩⟩ ?_
    clear hsx hb ho e0 e1 e4 eI eJ hs
    rintro x ⟨t, hh, n⟩ ⟨hxj, hsx, hn0, ⟨hs, hb, ho, e0⟩, e1, e4, eI, eJ⟩ hn1
    simp only at hn0 hb ho e0 e1 e4 eI eJ hn1
    subst hn0
    refine AWP.seq ?_
    by_cases hle : i2 ≤ x
    · have hle' : ((i2 : Nat) : Int) ≤ (x : Int) := by omega
      rw [← hs] at e0
      have hsx1 : (if (decide (i2 ≤ x) && (fun x => !ltZ z x d[a]!) d[x]!) = true then Sort.scanDown (fun x => !ltZ z x d[a]!) d i2 (x - 1) else x) = sx := by
        cases x with
        | zero => omega
        | succ y => exact hsx
      replace hsx := hsx1
      clear hsx1
      have la : x < d.size := by omega
      have lb : a < d.size := by omega
      have la' : ((x : Nat) : Int) < d.size := by omega
      have lb' : ((a : Nat) : Int) < d.size := by omega
      have hpa := celQ_get d T x la
      have hpb := celQ_get d T a lb
      have hb' : hh id = some ⟨ver, celQ d T⟩ := hb
      have hlL := celQ_len d T
      obtain ⟨vx, hvx⟩ : ∃ v, d[x]! = v := ⟨_, rfl⟩
      obtain ⟨vy, hvy⟩ : ∃ v, d[a]! = v := ⟨_, rfl⟩
      rw [hvx] at hpa
      rw [hvy] at hpb
      generalize celQ d T = L1 at hpa hpb hb' hlL
      refine AWP.seqRegDG [] [] [] mixed (drawF_ok (by kernel_rfl)) (by kernel_rfl) (fun K hK => ?_); simp -implicitDefEqProofs only [go_sem, ↓reduceIte, Nat.reduceEqDiff, Nat.reduceAdd, Nat.reduceLT, Nat.reduceLeDiff, reduceCtorEq, Int.toNat_natCast, e0, e1, e4, eI, eJ, hle', hb', hpa, hpb, la', lb']
      repeat (first | (refine Gdf 53 (jn5 @e0 @e1 @e4 @eI (jn7 @eJ @hle' @hb' @hpa @hpb @la' @lb')) ?_) | (refine ⟨by omega, ?_⟩))
      refine Ud (cm.calls vx vy _ _) cm.body ?_
      by_cases hz1 : z vx vy < 0
      · repeat (first | (refine Gdf 53 @hz1 ?_) | (refine ⟨by omega, ?_⟩))
        rw [if_neg (by show ¬ (decide (i2 ≤ x) && !ltZ z d[x]! d[a]!) = true; rw [hvx, hvy]; simp [hz1])] at hsx
        refine hK _ _ _ ?_; clear hK K
        refine Bf ?_
        refine AWP.exit ?_
        refine Ev ?_
        subst hsx
        exact ⟨rfl, ⟨hs, hb, ho, by exact Ecf (jn2 @e0 @hs)⟩, by exact Ecf @e1, by exact Ecf @e4, by exact Ecf @eI, by exact Ecf @eJ⟩
      · repeat (first | (refine Gdf 53 @hz1 ?_) | (refine ⟨by omega, ?_⟩))
        rw [if_pos (by show (decide (i2 ≤ x) && !ltZ z d[x]! d[a]!) = true; rw [hvx, hvy]; simp [hle, hz1])] at hsx
        refine hK _ _ _ ?_; clear hK K
        refine Bt ?_
        refine AWP.skip ?_
        refine Ev ?_
        refine AWP.block ?_
        have w9 := w_sub1 (a := x) (by omega) (by omega)
        refine Raf (jn2 @eJ @w9) (fun E K hE hK => ?_); refine hK _ _ _ ?_; clear hE hK K E
        exact ⟨x - 1, by omega, by omega, hsx, PtAt.cut hid hT hlow _ rfl ⟨rfl, ⟨hs, hb, ho, by exact Ecf (jn2 @e0 @hs)⟩, by exact Ecf @e1, by exact Ecf @e4, by exact Ecf @eI, by exact Er⟩⟩
    · have hle' : ¬ ((i2 : Nat) : Int) ≤ (x : Int) := by omega
      have hsx1 : x = sx := by
        cases x with
        | zero => exact hsx
        | succ y => rw [Sort.scanDown, if_neg (by simp; omega)] at hsx; exact hsx
      replace hsx := hsx1
      clear hsx1
      refine AWP.seqRegDG [] [] [] mixed (drawF_ok (by kernel_rfl)) (by kernel_rfl) (fun K hK => ?_); simp -implicitDefEqProofs only [go_sem, ↓reduceIte, Nat.reduceEqDiff, Nat.reduceAdd, Nat.reduceLT, Nat.reduceLeDiff, reduceCtorEq, Int.toNat_natCast, e0, e1, e4, eI, eJ, hle']
      repeat (first | (refine Gdf 53 @hle' ?_) | (refine ⟨by omega, ?_⟩))
      refine hK _ _ _ ?_; clear hK K
      refine Bf ?_
      refine AWP.exit ?_
      refine Ev ?_
      subst hsx
      exact ⟨rfl, ⟨hs, hb, ho, by exact Ecf @e0⟩, by exact Ecf @e1, by exact Ecf @e4, by exact Ecf @eI, by exact Ecf @eJ⟩
  clear hb ho e0 e1 e4 eI eJ hs
  rintro ⟨t, hh, n⟩ ⟨hn0, ⟨hs, hb, ho, e0⟩, e1, e4, eI, eJ⟩
  simp only at hn0 hb ho e0 e1 e4 eI eJ
  subst hn0
  have hle := Sort.scanDown_le (fun x => !ltZ z x d[a]!) d i2 ((e - 1))
  obtain ⟨j2, hj2⟩ : ∃ j2, Sort.scanDown (fun x => !ltZ z x d[a]!) d i2 ((e - 1)) = j2 := ⟨_, rfl⟩
  rw [hj2] at eJ hR hle
  clear hj2
  refine AWP.seq ?_
  by_cases hgt : i2 > j2
  · have hgt' : ((j2 : Nat) : Int) < (i2 : Int) := by omega
    rw [if_pos hgt] at hR
    refine Rkf (jn3 @eI @eJ @hgt') ?_
    refine Bt ?_
    rw [← hs] at e0
    have la : j2 < d.size := by omega
    have lb : a < d.size := by omega
    have la' : ((j2 : Nat) : Int) < d.size := by omega
    have lb' : ((a : Nat) : Int) < d.size := by omega
    have hpa := celQ_get d T j2 la
    have hpb := celQ_get d T a lb
    have hs1 := celQ_set d T j2 la d[a]!
    have hs2 := celQ_set (d.setIfInBounds j2 d[a]!) T a (by rw [Array.size_setIfInBounds]; exact lb) d[j2]!
    rw [show (d.setIfInBounds j2 d[a]!).setIfInBounds a d[j2]! = Sort.swp d j2 a from rfl] at hs2
    have hb' : hh id = some ⟨ver, celQ d T⟩ := hb
    have hlL := celQ_len d T
    have hlL2 := celQ_len (d.setIfInBounds j2 d[a]!) T
    rw [Array.size_setIfInBounds] at hlL2
    obtain ⟨vx, hvx⟩ : ∃ v, d[j2]! = v := ⟨_, rfl⟩
    obtain ⟨vy, hvy⟩ : ∃ v, d[a]! = v := ⟨_, rfl⟩
    rw [hvx] at hpa hs2
    rw [hvy] at hpb hs1 hs2 hlL2
    generalize celQ (d.setIfInBounds j2 vy) T = L2 at hs1 hs2 hlL2
    generalize celQ d T = L1 at hpa hpb hs1 hb' hlL
    refine AWP.seq ?_
    refine AWP.rgD [79, 83] [] [id] mixed (by kernel_rfl) (by kernel_rfl) (fun K hK => ?_) (by kernel_rfl); simp -implicitDefEqProofs only [go_sem, ↓reduceIte, Nat.reduceEqDiff, Nat.reduceAdd, Nat.reduceLT, Nat.reduceLeDiff, reduceCtorEq, Int.toNat_natCast, e0, e1, eI, eJ, hb', hpa, hpb, la', lb', hs1, hs2]
    repeat (first | (refine ⟨⟨by omega, by omega⟩, ?_⟩) | (refine ⟨by omega, ?_⟩) | (refine ⟨sub_ers _ _, ?_⟩) | (refine ⟨sub_at _ hb', ?_⟩))
    refine hK _ _ _ ?_; clear hK K
    refine Ev ?_
    refine Rkf @eJ ?_
    refine AWP.ret ?_
    refine Ev ?_
    subst hR
    exact RwAt.ends (C := ⟨_, b, ι, h, w, x0⟩) (d := Sort.swp d j2 a) hid hT hn H (by exact Er) (fun x hx hne => by refine Evf @hne ?_; exact ho x hx hne) (r := .tup [IntV j2, BoolV true]) (by rw [show Tryz.f166.results.toList = [.tmp 10, .tmp 11] from rfl]; exact Er) (frz_tup2 (.v _) (.v _)) ⟨rfl, rfl⟩
  have hgt' : ¬ ((j2 : Nat) : Int) < (i2 : Int) := by omega
  rw [if_neg hgt] at hR
  refine Rkf (jn3 @eI @eJ @hgt') ?_
  refine Bs ?_
  have w1 := w_add1 (a := i2) (by omega)
  have w2 := w_sub1 (a := j2) (by omega) (by omega)
  rw [← hs] at e0
  have la : i2 < d.size := by omega
  have lb : j2 < d.size := by omega
  have la' : ((i2 : Nat) : Int) < d.size := by omega
  have lb' : ((j2 : Nat) : Int) < d.size := by omega
  have hpa := celQ_get d T i2 la
  have hpb := celQ_get d T j2 lb
  have hs1 := celQ_set d T i2 la d[j2]!
  have hs2 := celQ_set (d.setIfInBounds i2 d[j2]!) T j2 (by rw [Array.size_setIfInBounds]; exact lb) d[i2]!
  rw [show (d.setIfInBounds i2 d[j2]!).setIfInBounds j2 d[i2]! = Sort.swp d i2 j2 from rfl] at hs2
  have hb' : hh id = some ⟨ver, celQ d T⟩ := hb
  have hlL := celQ_len d T
  have hlL2 := celQ_len (d.setIfInBounds i2 d[j2]!) T
  rw [Array.size_setIfInBounds] at hlL2
  obtain ⟨vx, hvx⟩ : ∃ v, d[i2]! = v := ⟨_, rfl⟩
  obtain ⟨vy, hvy⟩ : ∃ v, d[j2]! = v := ⟨_, rfl⟩
  rw [hvx] at hpa hs2
  rw [hvy] at hpb hs1 hs2 hlL2
  generalize celQ (d.setIfInBounds i2 vy) T = L2 at hs1 hs2 hlL2
  generalize celQ d T = L1 at hpa hpb hs1 hb' hlL
  refine AWP.seq ?_
  refine AWP.rgD [94, 98] [] [id] mixed (by kernel_rfl) (by kernel_rfl) (fun K hK => ?_) (by kernel_rfl); simp -implicitDefEqProofs only [go_sem, ↓reduceIte, Nat.reduceEqDiff, Nat.reduceAdd, Nat.reduceLT, Nat.reduceLeDiff, reduceCtorEq, Int.toNat_natCast, e0, eI, eJ, hb', hpa, hpb, la', lb', hs1, hs2]
  repeat (first | (refine ⟨⟨by omega, by omega⟩, ?_⟩) | (refine ⟨by omega, ?_⟩) | (refine ⟨sub_ers _ _, ?_⟩) | (refine ⟨sub_at _ hb', ?_⟩))
  refine hK _ _ _ ?_; clear hK K
  refine Ev ?_
  refine Rkf (jn2 @eI @w1) ?_
  refine Rkf (jn2 @eJ @w2) ?_
  obtain ⟨rl, hrl⟩ : ∃ rl, Sort.partLoop (ltZ z) a (i2 + 1) (j2 - 1) (Sort.swp d i2 j2) = rl := ⟨_, rfl⟩
  have hsr := part_size (ltZ z) a (j2 - 1 + 1 - (i2 + 1)) (i2 + 1) (j2 - 1) (Sort.swp d i2 j2) (Nat.le_refl _)
  rw [hrl, swp_size, hs] at hsr
  rw [hrl] at hR
  refine AWP.mid (fun st => PtAt h b id ver cap N T rl.2 a g 12 13 0 rl.1 ⟨fun x => if x = 12 then IntV (0 : Nat) else st.t x, st.h, st.n⟩ ∧ rl.1 < e) ?_ ?_
  · refine AWP.block ?_
    refine AWP.loopM 0 (fun m st => ∃ i j d, m = j + 1 - i ∧ a < i ∧ j < e ∧ Sort.partLoop (ltZ z) a i j d = rl ∧ PtAt h b id ver cap N T d a g 12 13 i j st) (j2 - 1 + 1 - (i2 + 1)) rfl ⟨i2 + 1, j2 - 1, _, rfl, by omega, by omega, hrl, ⟨rfl, ⟨by rw [swp_size, hs], by exact Er, fun x hx hne => by refine Evf @hne ?_; exact ho x hx hne, by exact Ecf (jn2 @e0 @hs)⟩, by exact Ecf @e1, by exact Ecf @e4, by exact Er, by exact Er⟩⟩ ?_
    clear hR hrl hb ho hb' hpa hpb hs1 hs2 hlL hlL2 hvx hvy la lb la' lb' w1 w2 hs e0 e1 e4 eI eJ hgt hgt' hge hle hsr
    rintro m ⟨t, hh, n⟩ ⟨i, j, d, rfl, hai, hje, hR, hn0, ⟨hs, hb, ho, e0⟩, e1, e4, eI, eJ⟩ hn1
    simp only at hn0 hb ho e0 e1 e4 eI eJ hn1
    subst hn0
    rw [Sort.partLoop_eq] at hR
    refine AWP.block ?_
    refine AWP.mid (PtAt h b id ver cap N T d a g 12 13 (Sort.scanUp (fun x => ltZ z x d[a]!) d j i) (j)) ?_ ?_
    · refine AWP.block ?_
      obtain ⟨sx, hsx⟩ : ∃ sx, Sort.scanUp (fun x => ltZ z x d[a]!) d j i = sx := ⟨_, rfl⟩
      rw [hsx]
      refine AWP.loopM 0 (fun m st => ∃ x, m = j + 1 - x ∧ a < x ∧ Sort.scanUp (fun x => ltZ z x d[a]!) d j x = sx ∧ PtAt h b id ver cap N T d a g 12 13 (x) (j) st) (j + 1 - i) rfl ⟨i, rfl, by omega, hsx, ⟨rfl, ⟨hs, hb, ho, by exact Ecf @e0⟩, by exact Ecf @e1, by exact Ecf @e4, by exact Ecf @eI, by exact Ecf @eJ⟩⟩ ?_
      clear hsx hb ho e0 e1 e4 eI eJ hs
      rintro m ⟨t, hh, n⟩ ⟨x, rfl, hax, hsx, hn0, ⟨hs, hb, ho, e0⟩, e1, e4, eI, eJ⟩ hn1
      simp only at hn0 hb ho e0 e1 e4 eI eJ hn1
      subst hn0
      rw [Sort.scanUp] at hsx
      refine AWP.seq ?_
      by_cases hle : x ≤ j
      · have hle' : (x : Int) ≤ (j : Nat) := by omega
        rw [← hs] at e0
        have la : x < d.size := by omega
        have lb : a < d.size := by omega
        have la' : ((x : Nat) : Int) < d.size := by omega
        have lb' : ((a : Nat) : Int) < d.size := by omega
        have hpa := celQ_get d T x la
        have hpb := celQ_get d T a lb
        have hb' : hh id = some ⟨ver, celQ d T⟩ := hb
        have hlL := celQ_len d T
        obtain ⟨vx, hvx⟩ : ∃ v, d[x]! = v := ⟨_, rfl⟩
        obtain ⟨vy, hvy⟩ : ∃ v, d[a]! = v := ⟨_, rfl⟩
        rw [hvx] at hpa
        rw [hvy] at hpb
        generalize celQ d T = L1 at hpa hpb hb' hlL
        refine AWP.seqRegDG [] [] [] mixed (drawF_ok (by kernel_rfl)) (by kernel_rfl) (fun K hK => ?_); simp -implicitDefEqProofs only [go_sem, ↓reduceIte, Nat.reduceEqDiff, Nat.reduceAdd, Nat.reduceLT, Nat.reduceLeDiff, reduceCtorEq, Int.toNat_natCast, e0, e1, e4, eI, eJ, hle', hb', hpa, hpb, la', lb']
        repeat (first | (refine Gdf 108 (jn5 @e0 @e1 @e4 @eI (jn7 @eJ @hle' @hb' @hpa @hpb @la' @lb')) ?_) | (refine ⟨by omega, ?_⟩))
        refine Ud (cm.calls vx vy _ _) cm.body ?_
        by_cases hz1 : z vx vy < 0
        · repeat (first | (refine Gdf 108 @hz1 ?_) | (refine ⟨by omega, ?_⟩))
          rw [if_pos (by show (decide (x ≤ j) && ltZ z d[x]! d[a]!) = true; rw [hvx, hvy]; simp [hle, hz1])] at hsx
          refine hK _ _ _ ?_; clear hK K
          refine Bt ?_
          refine AWP.skip ?_
          refine Ev ?_
          refine AWP.block ?_
          have w9 := w_add1 (a := x) (by omega)
          refine Raf (jn2 @eI @w9) (fun E K hE hK => ?_); refine hK _ _ _ ?_; clear hE hK K E
          exact ⟨j + 1 - (x + 1), by omega, x + 1, rfl, by omega, hsx, PtAt.cut hid hT hlow _ rfl ⟨rfl, ⟨hs, hb, ho, by exact Ecf (jn2 @e0 @hs)⟩, by exact Ecf @e1, by exact Ecf @e4, by exact Er, by exact Ecf @eJ⟩⟩
        · repeat (first | (refine Gdf 108 @hz1 ?_) | (refine ⟨by omega, ?_⟩))
          rw [if_neg (by show ¬ (decide (x ≤ j) && ltZ z d[x]! d[a]!) = true; rw [hvx, hvy]; simp [hz1])] at hsx
          refine hK _ _ _ ?_; clear hK K
          refine Bf ?_
          refine AWP.exit ?_
          refine Ev ?_
          subst hsx
          exact ⟨rfl, ⟨hs, hb, ho, by exact Ecf (jn2 @e0 @hs)⟩, by exact Ecf @e1, by exact Ecf @e4, by exact Ecf @eI, by exact Ecf @eJ⟩
      · have hle' : ¬ (x : Int) ≤ (j : Nat) := by omega
        rw [if_neg (by simp [hle])] at hsx
        refine AWP.seqRegDG [] [] [] mixed (drawF_ok (by kernel_rfl)) (by kernel_rfl) (fun K hK => ?_); simp -implicitDefEqProofs only [go_sem, ↓reduceIte, Nat.reduceEqDiff, Nat.reduceAdd, Nat.reduceLT, Nat.reduceLeDiff, reduceCtorEq, Int.toNat_natCast, e0, e1, e4, eI, eJ, hle']
        repeat (first | (refine Gdf 108 @hle' ?_) | (refine ⟨by omega, ?_⟩))
        refine hK _ _ _ ?_; clear hK K
        refine Bf ?_
        refine AWP.exit ?_
        refine Ev ?_
        subst hsx
        exact ⟨rfl, ⟨hs, hb, ho, by exact Ecf @e0⟩, by exact Ecf @e1, by exact Ecf @e4, by exact Ecf @eI, by exact Ecf @eJ⟩
    clear hb ho e0 e1 e4 eI eJ hs
    rintro ⟨t, hh, n⟩ ⟨hn0, ⟨hs, hb, ho, e0⟩, e1, e4, eI, eJ⟩
    simp only at hn0 hb ho e0 e1 e4 eI eJ
    subst hn0
    have hge := Sort.scanUp_ge (fun x => ltZ z x d[a]!) d (j) (i)
    obtain ⟨i2, hi2⟩ : ∃ i2, Sort.scanUp (fun x => ltZ z x d[a]!) d (j) (i) = i2 := ⟨_, rfl⟩
    rw [hi2] at eI hR hge
    clear hi2
    refine AWP.mid (PtAt h b id ver cap N T d a g 12 13 (i2) (Sort.scanDown (fun x => !ltZ z x d[a]!) d i2 j)) ?_ ?_
    · refine AWP.block ?_
      obtain ⟨sx, hsx⟩ : ∃ sx, Sort.scanDown (fun x => !ltZ z x d[a]!) d i2 j = sx := ⟨_, rfl⟩
      rw [hsx]
      refine AWP.loopM 0 (fun x st => x ≤ j ∧ Sort.scanDown (fun x => !ltZ z x d[a]!) d i2 x = sx ∧ PtAt h b id ver cap N T d a g 12 13 (i2) (x) st) (j) rfl ⟨Nat.le_refl _, hsx, ⟨rfl, ⟨hs, hb, ho, by exact Ecf @e0⟩, by exact Ecf @e1, by exact Ecf @e4, by exact Ecf @eI, by exact Ecf @eJ⟩⟩ ?_
      clear hsx hb ho e0 e1 e4 eI eJ hs
      rintro x ⟨t, hh, n⟩ ⟨hxj, hsx, hn0, ⟨hs, hb, ho, e0⟩, e1, e4, eI, eJ⟩ hn1
      simp only at hn0 hb ho e0 e1 e4 eI eJ hn1
      subst hn0
      refine AWP.seq ?_
      by_cases hle : i2 ≤ x
      · have hle' : ((i2 : Nat) : Int) ≤ (x : Int) := by omega
        rw [← hs] at e0
        have hsx1 : (if (decide (i2 ≤ x) && (fun x => !ltZ z x d[a]!) d[x]!) = true then Sort.scanDown (fun x => !ltZ z x d[a]!) d i2 (x - 1) else x) = sx := by
          cases x with
          | zero => omega
          | succ y => exact hsx
        replace hsx := hsx1
        clear hsx1
        have la : x < d.size := by omega
        have lb : a < d.size := by omega
        have la' : ((x : Nat) : Int) < d.size := by omega
        have lb' : ((a : Nat) : Int) < d.size := by omega
        have hpa := celQ_get d T x la
        have hpb := celQ_get d T a lb
        have hb' : hh id = some ⟨ver, celQ d T⟩ := hb
        have hlL := celQ_len d T
        obtain ⟨vx, hvx⟩ : ∃ v, d[x]! = v := ⟨_, rfl⟩
        obtain ⟨vy, hvy⟩ : ∃ v, d[a]! = v := ⟨_, rfl⟩
        rw [hvx] at hpa
        rw [hvy] at hpb
        generalize celQ d T = L1 at hpa hpb hb' hlL
        refine AWP.seqRegDG [] [] [] mixed (drawF_ok (by kernel_rfl)) (by kernel_rfl) (fun K hK => ?_); simp -implicitDefEqProofs only [go_sem, ↓reduceIte, Nat.reduceEqDiff, Nat.reduceAdd, Nat.reduceLT, Nat.reduceLeDiff, reduceCtorEq, Int.toNat_natCast, e0, e1, e4, eI, eJ, hle', hb', hpa, hpb, la', lb']
        repeat (first | (refine Gdf 126 (jn5 @e0 @e1 @e4 @eI (jn7 @eJ @hle' @hb' @hpa @hpb @la' @lb')) ?_) | (refine ⟨by omega, ?_⟩))
        refine Ud (cm.calls vx vy _ _) cm.body ?_
        by_cases hz1 : z vx vy < 0
        · repeat (first | (refine Gdf 126 @hz1 ?_) | (refine ⟨by omega, ?_⟩))
          rw [if_neg (by show ¬ (decide (i2 ≤ x) && !ltZ z d[x]! d[a]!) = true; rw [hvx, hvy]; simp [hz1])] at hsx
          refine hK _ _ _ ?_; clear hK K
          refine Bf ?_
          refine AWP.exit ?_
          refine Ev ?_
          subst hsx
          exact ⟨rfl, ⟨hs, hb, ho, by exact Ecf (jn2 @e0 @hs)⟩, by exact Ecf @e1, by exact Ecf @e4, by exact Ecf @eI, by exact Ecf @eJ⟩
        · repeat (first | (refine Gdf 126 @hz1 ?_) | (refine ⟨by omega, ?_⟩))
          rw [if_pos (by show (decide (i2 ≤ x) && !ltZ z d[x]! d[a]!) = true; rw [hvx, hvy]; simp [hle, hz1])] at hsx
          refine hK _ _ _ ?_; clear hK K
          refine Bt ?_
          refine AWP.skip ?_
          refine Ev ?_
          refine AWP.block ?_
          have w9 := w_sub1 (a := x) (by omega) (by omega)
          refine Raf (jn2 @eJ @w9) (fun E K hE hK => ?_); refine hK _ _ _ ?_; clear hE hK K E
          exact ⟨x - 1, by omega, by omega, hsx, PtAt.cut hid hT hlow _ rfl ⟨rfl, ⟨hs, hb, ho, by exact Ecf (jn2 @e0 @hs)⟩, by exact Ecf @e1, by exact Ecf @e4, by exact Ecf @eI, by exact Er⟩⟩
      · have hle' : ¬ ((i2 : Nat) : Int) ≤ (x : Int) := by omega
        have hsx1 : x = sx := by
          cases x with
          | zero => exact hsx
          | succ y => rw [Sort.scanDown, if_neg (by simp; omega)] at hsx; exact hsx
        replace hsx := hsx1
        clear hsx1
        refine AWP.seqRegDG [] [] [] mixed (drawF_ok (by kernel_rfl)) (by kernel_rfl) (fun K hK => ?_); simp -implicitDefEqProofs only [go_sem, ↓reduceIte, Nat.reduceEqDiff, Nat.reduceAdd, Nat.reduceLT, Nat.reduceLeDiff, reduceCtorEq, Int.toNat_natCast, e0, e1, e4, eI, eJ, hle']
        repeat (first | (refine Gdf 126 @hle' ?_) | (refine ⟨by omega, ?_⟩))
        refine hK _ _ _ ?_; clear hK K
        refine Bf ?_
        refine AWP.exit ?_
        refine Ev ?_
        subst hsx
        exact ⟨rfl, ⟨hs, hb, ho, by exact Ecf @e0⟩, by exact Ecf @e1, by exact Ecf @e4, by exact Ecf @eI, by exact Ecf @eJ⟩
    clear hb ho e0 e1 e4 eI eJ hs
    rintro ⟨t, hh, n⟩ ⟨hn0, ⟨hs, hb, ho, e0⟩, e1, e4, eI, eJ⟩
    simp only at hn0 hb ho e0 e1 e4 eI eJ
    subst hn0
    have hle := Sort.scanDown_le (fun x => !ltZ z x d[a]!) d i2 (j)
    obtain ⟨j2, hj2⟩ : ∃ j2, Sort.scanDown (fun x => !ltZ z x d[a]!) d i2 (j) = j2 := ⟨_, rfl⟩
    rw [hj2] at eJ hR hle
    clear hj2
    refine AWP.seq ?_
    by_cases hgt : i2 > j2
    · have hgt' : ((j2 : Nat) : Int) < (i2 : Int) := by omega
      rw [if_pos hgt] at hR
      refine Rkf (jn3 @eI @eJ @hgt') ?_
      refine Bt ?_
      refine AWP.exit ?_
      refine Ev ?_
      subst hR
      exact ⟨⟨rfl, ⟨hs, hb, ho, by exact Ecf @e0⟩, by exact Ecf @e1, by exact Ecf @e4, by exact Er, by exact Ecf @eJ⟩, by omega⟩
    · have hgt' : ¬ ((j2 : Nat) : Int) < (i2 : Int) := by omega
      rw [if_neg hgt] at hR
      refine Rkf (jn3 @eI @eJ @hgt') ?_
      refine Bs ?_
      have w1 := w_add1 (a := i2) (by omega)
      have w2 := w_sub1 (a := j2) (by omega) (by omega)
      rw [← hs] at e0
      have la : i2 < d.size := by omega
      have lb : j2 < d.size := by omega
      have la' : ((i2 : Nat) : Int) < d.size := by omega
      have lb' : ((j2 : Nat) : Int) < d.size := by omega
      have hpa := celQ_get d T i2 la
      have hpb := celQ_get d T j2 lb
      have hs1 := celQ_set d T i2 la d[j2]!
      have hs2 := celQ_set (d.setIfInBounds i2 d[j2]!) T j2 (by rw [Array.size_setIfInBounds]; exact lb) d[i2]!
      rw [show (d.setIfInBounds i2 d[j2]!).setIfInBounds j2 d[i2]! = Sort.swp d i2 j2 from rfl] at hs2
      have hb' : hh id = some ⟨ver, celQ d T⟩ := hb
      have hlL := celQ_len d T
      have hlL2 := celQ_len (d.setIfInBounds i2 d[j2]!) T
      rw [Array.size_setIfInBounds] at hlL2
      obtain ⟨vx, hvx⟩ : ∃ v, d[i2]! = v := ⟨_, rfl⟩
      obtain ⟨vy, hvy⟩ : ∃ v, d[j2]! = v := ⟨_, rfl⟩
      rw [hvx] at hpa hs2
      rw [hvy] at hpb hs1 hs2 hlL2
      generalize celQ (d.setIfInBounds i2 vy) T = L2 at hs1 hs2 hlL2
      generalize celQ d T = L1 at hpa hpb hs1 hb' hlL
      refine AWP.seq ?_
      refine AWP.rgD [152, 156] [] [id] mixed (by kernel_rfl) (by kernel_rfl) (fun K hK => ?_) (by kernel_rfl); simp -implicitDefEqProofs only [go_sem, ↓reduceIte, Nat.reduceEqDiff, Nat.reduceAdd, Nat.reduceLT, Nat.reduceLeDiff, reduceCtorEq, Int.toNat_natCast, e0, eI, eJ, hb', hpa, hpb, la', lb', hs1, hs2]
      repeat (first | (refine ⟨⟨by omega, by omega⟩, ?_⟩) | (refine ⟨by omega, ?_⟩) | (refine ⟨sub_ers _ _, ?_⟩) | (refine ⟨sub_at _ hb', ?_⟩))
      refine hK _ _ _ ?_; clear hK K
      refine Ev ?_
      refine Rkf (jn2 @eI @w1) ?_
      refine Raf (jn2 @eJ @w2) (fun E K hE hK => ?_); refine hK _ _ _ ?_; clear hE hK K E
      refine ⟨j2 - 1 + 1 - (i2 + 1), by omega, i2 + 1, j2 - 1, _, rfl, by omega, by omega, hR, PtAt.cut hid hT hlow _ rfl ⟨rfl, ⟨by rw [swp_size, hs], by exact Er, fun x hx hne => by refine Evf @hne ?_; exact ho x hx hne, by exact Ecf (jn2 @e0 @hs)⟩, by exact Ecf @e1, by exact Ecf @e4, by exact Er, by exact Er⟩⟩
  clear hb ho hb' hpa hpb hs1 hs2 hlL hlL2 hvx hvy la lb la' lb' w1 w2 hs e0 e1 e4 eI eJ hrl
  rintro ⟨t, hh, n⟩ ⟨⟨hn0, ⟨hs, hb, ho, e0⟩, e1, e4, _, eJ⟩, hrj⟩
  simp only [Nat.reduceEqDiff, if_false] at hn0 hb ho e0 e1 e4 eJ
  subst hn0
  obtain ⟨jr, dr⟩ := rl
  simp only at hs hb hR hsr eJ hrj
  rw [← hs] at e0
  have la : jr < dr.size := by omega
  have lb : a < dr.size := by omega
  have la' : ((jr : Nat) : Int) < dr.size := by omega
  have lb' : ((a : Nat) : Int) < dr.size := by omega
  have hpa := celQ_get dr T jr la
  have hpb := celQ_get dr T a lb
  have hs1 := celQ_set dr T jr la dr[a]!
  have hs2 := celQ_set (dr.setIfInBounds jr dr[a]!) T a (by rw [Array.size_setIfInBounds]; exact lb) dr[jr]!
  rw [show (dr.setIfInBounds jr dr[a]!).setIfInBounds a dr[jr]! = Sort.swp dr jr a from rfl] at hs2
  have hb' : hh id = some ⟨ver, celQ dr T⟩ := hb
  have hlL := celQ_len dr T
  have hlL2 := celQ_len (dr.setIfInBounds jr dr[a]!) T
  rw [Array.size_setIfInBounds] at hlL2
  obtain ⟨vx, hvx⟩ : ∃ v, dr[jr]! = v := ⟨_, rfl⟩
  obtain ⟨vy, hvy⟩ : ∃ v, dr[a]! = v := ⟨_, rfl⟩
  rw [hvx] at hpa hs2
  rw [hvy] at hpb hs1 hs2 hlL2
  generalize celQ (dr.setIfInBounds jr vy) T = L2 at hs1 hs2 hlL2
  generalize celQ dr T = L1 at hpa hpb hs1 hb' hlL
  refine AWP.seq ?_
  refine AWP.rgD [170, 174] [] [id] mixed (by kernel_rfl) (by kernel_rfl) (fun K hK => ?_) (by kernel_rfl); simp -implicitDefEqProofs only [go_sem, ↓reduceIte, Nat.reduceEqDiff, Nat.reduceAdd, Nat.reduceLT, Nat.reduceLeDiff, reduceCtorEq, Int.toNat_natCast, e0, e1, eJ, hb', hpa, hpb, la', lb', hs1, hs2]
  repeat (first | (refine ⟨⟨by omega, by omega⟩, ?_⟩) | (refine ⟨by omega, ?_⟩) | (refine ⟨sub_ers _ _, ?_⟩) | (refine ⟨sub_at _ hb', ?_⟩))
  refine hK _ _ _ ?_; clear hK K
  refine Ev ?_
  refine Rkf @eJ ?_
  refine AWP.ret ?_
  refine Ev ?_
  subst hR
  exact RwAt.ends (C := ⟨_, b, ι, h, w, x0⟩) (d := Sort.swp dr jr a) hid hT hn H (by exact Er) (fun x hx hne => by refine Evf @hne ?_; exact ho x hx hne) (r := .tup [IntV jr, BoolV false]) (by rw [show Tryz.f166.results.toList = [.tmp 10, .tmp 11] from rfl]; exact Er) (frz_tup2 (.v _) (.v _)) ⟨rfl, rfl⟩
end Go.Proofs.YtihgnpboabpchaaGreatDoor.PdSt
namespace Go.Proofs.YtihgnpboabpchaaGreatDoor.PdSt
set_option linter.unusedSimpArgs false
set_option linter.unusedVariables false
set_option linter.unnecessarySimpa false
open Go Am
set_option maxRecDepth 100000
structure PiAt (h : Heap) (b id ver cap N : Nat) (T : List Cell) (d : Array El) (a e : Nat) (g : FuncId) (i q : Nat) (st : St) : Prop where
  n : st.n = 0
  row : RwAt h b id ver cap N T d st
  a : st.t 1 = IntV a
  e : st.t 2 = IntV e
  g : st.t 3 = cloV g
  i : st.t 9 = IntV i
  q : st.t 10 = IntV q
theorem PiAt.cut {h : Heap} {b id ver cap N : Nat} {T : List Cell} {d : Array El} {a e : Nat} {g : FuncId} {i q : Nat} {st : St} (hid : id < b) (hT : lowCs 0 T = true) (hlow : ∀ id blk, h id = some blk → ∀ c ∈ blk.cells, lowC b c = true) (C : Ctx) (hC : C.b = b)
    (k : PiAt h b id ver cap N T d a e g i q st) : PiAt h b id ver cap N T d a e g i q (st.cut C 0) := by
  obtain ⟨t, hh, n⟩ := st
  obtain ⟨_, ⟨h1, h2, h3, h4⟩, h5, h6, h7, h8, h9⟩ := k
  simp only at h2 h3 h4 h5 h6 h7 h8 h9
  refine ⟨rfl, RwAt.cut hid hT hlow C hC h1 h2 h3 h4, ?_, ?_, ?_, ?_, ?_⟩
  · show cutV _ (t 1) = _; rw [h5]; rfl
  · show cutV _ (t 2) = _; rw [h6]; rfl
  · show cutV _ (t 3) = _; rw [h7]; rfl
  · show cutV _ (t 9) = _; rw [h8]; rfl
  · show cutV _ (t 10) = _; rw [h9]; rfl
def pinD (lt : El → El → Bool) (a e i : Nat) (d : Array El) : Array El := if i - a ≥ 2 then Sort.shiftDown lt (i - 1) d else d
def pinU (lt : El → El → Bool) (e i : Nat) (d : Array El) : Array El := if e - i ≥ 2 then Sort.shiftUp lt e (i + 1) d else d
theorem pIns_succ (lt : El → El → Bool) (a e s i : Nat) (d : Array El) : Sort.partialIns lt a e (s + 1) i d = if Sort.scanSorted lt d e i = e then (d, true) else if e - a < 50 then (d, false) else
    Sort.partialIns lt a e s (Sort.scanSorted lt d e i) (pinU lt e (Sort.scanSorted lt d e i) (pinD lt a e (Sort.scanSorted lt d e i) (Sort.swp d (Sort.scanSorted lt d e i) (Sort.scanSorted lt d e i - 1)))) := rfl
theorem partialIns_ok {g : FuncId} {z : El → El → Int} (cm : CmpQ g z) {h : Heap} {b id ver cap : Nat} {d0 : Array El} {T : List Cell} (k : PdAt h id ver d0 T) (hid : id < b) (a e : Nat) (hae : a < e) (he : e ≤ d0.size) :
    ACalls Tryz.prog 164 [winQ id ver cap d0.size, IntV a, IntV e, cloV g] h b 0
      (fun r h' => r = BoolV (Sort.partialInsertionSort (ltZ z) d0 a e).2 ∧ h' = upd h id (rowQ ver (Sort.partialInsertionSort (ltZ z) d0 a e).1 T)) := by
  refine ACalls.enter Tryz.func164 rfl (by simp [Tryz.ntmps164]) (fun ι w hn H => ?_)
  have hlow := H.lowCells
  have hz := k.size
  obtain ⟨N, hN⟩ : ∃ N, d0.size = N := ⟨_, rfl⟩
  have hrow := k.row
  have hT := k.low
  rw [hN] at hz he ⊢
  unfold Sort.partialInsertionSort
  obtain ⟨R, hR⟩ : ∃ R, Sort.partialIns (ltZ z) a e 5 (a + 1) d0 = R := ⟨_, rfl⟩
  rw [hR]
  have fin : ∀ (t : Nat → AV) (hh : Heap) (d : Array El) (v : Bool), R = (d, v) → t 8 = BoolV v → hh id = some (rowQ ver d T) → (∀ x, x < b → x ≠ id → hh x = h x) →
      Am.Ends Tryz.prog ⟨Tryz.f164.ntmps, b, ι, h, w, x0⟩ Tryz.f164 0 (fun r h' => r = BoolV R.2 ∧ h' = upd h id (rowQ ver R.1 T)) ⟨t, hh, 0⟩ := by
    intro t hh d v h1 h2 h3 h4
    subst h1
    exact RwAt.ends (C := ⟨_, b, ι, h, w, x0⟩) hid hT hn H h3 h4 (r := BoolV v) (by rw [show Tryz.f164.results.toList = [.tmp 8] from rfl]; exact Ecf @h2) (.v _) ⟨rfl, rfl⟩
  have w1 := w_add1 (a := a) (by omega)
  refine Rk ?_
  refine Rkf @w1 ?_
  refine AWP.seq ?_
  refine Rk ?_
  refine AWP.block ?_
  refine AWP.loopM 0 (fun m st => ∃ q i d, m = 5 - q ∧ q ≤ 5 ∧ a < i ∧ i ≤ e ∧ Sort.partialIns (ltZ z) a e (5 - q) i d = R ∧ PiAt h b id ver cap N T d a e g i q st) 5 rfl ⟨0, a + 1, d0, rfl, by omega, by omega, by omega, hR, ⟨rfl, ⟨hN, hrow, fun _ _ _ => rfl, by exact Er⟩, by exact Er, by exact Er, by exact Er, by exact Er, by exact Er⟩⟩ ?_
  clear hR w1 hrow hN k
  rintro m ⟨t, hh, n⟩ ⟨q, i, d, rfl, hq, hai, hie, hR, hn0, ⟨hs, hb, ho, e0⟩, e1, e2, e3, e9, e10⟩ hn1
  simp only at hn0 hb ho e0 e1 e2 e3 e9 e10 hn1
  subst hn0
  refine AWP.seq ?_
  by_cases hq5 : q < 5
  · have hq5' : (q : Int) < 5 := by omega
    obtain ⟨s, hs5⟩ : ∃ s, 5 - q = s + 1 := ⟨4 - q, by omega⟩
    rw [hs5, pIns_succ] at hR
    refine Rkf (jn2 @e10 @hq5') ?_
    refine Bt ?_
    refine AWP.skip ?_
    refine Ev ?_
    obtain ⟨i2, hi2⟩ : ∃ i2, Sort.scanSorted (ltZ z) d e i = i2 := ⟨_, rfl⟩
    rw [hi2] at hR
    refine AWP.mid (fun st => i2 ≠ e ∧ a < i2 ∧ i2 < e ∧ ¬ e - a < 50 ∧ PiAt h b id ver cap N T (pinU (ltZ z) e i2 (pinD (ltZ z) a e i2 (Sort.swp d i2 (i2 - 1)))) a e g i2 q st) ?_ ?_
    · refine AWP.block ?_
      refine AWP.mid (fun st => a < i2 ∧ i2 ≤ e ∧ PiAt h b id ver cap N T d a e g i2 q st) ?_ ?_
      · refine AWP.block ?_
        refine AWP.loopM 0 (fun m st => ∃ x, m = e - x ∧ a < x ∧ x ≤ e ∧ Sort.scanSorted (ltZ z) d e x = i2 ∧ PiAt h b id ver cap N T d a e g x q st) (e - i) rfl ⟨i, rfl, hai, hie, hi2, ⟨rfl, ⟨hs, hb, ho, by exact Ecf @e0⟩, by exact Ecf @e1, by exact Ecf @e2, by exact Ecf @e3, by exact Ecf @e9, by exact Ecf @e10⟩⟩ ?_
        clear hi2 hb ho e0 e1 e2 e3 e9 e10 hs
        rintro m ⟨t, hh, n⟩ ⟨x, rfl, hax, hxe, hi2, hn0, ⟨hs, hb, ho, e0⟩, e1, e2, e3, e9, e10⟩ hn1
        simp only at hn0 hb ho e0 e1 e2 e3 e9 e10 hn1
        subst hn0
        rw [Sort.scanSorted] at hi2
        refine AWP.seq ?_
        by_cases hlt : x < e
        · have hlt' : (x : Int) < (e : Nat) := by omega
          have w3 := w_sub1 (a := x) (by omega) (by omega)
          rw [← hs] at e0
          have la : x < d.size := by omega
          have lb : (x - 1) < d.size := by omega
          have la' : ((x : Nat) : Int) < d.size := by omega
          have lb' : (((x - 1) : Nat) : Int) < d.size := by omega
          have hpa := celQ_get d T x la
          have hpb := celQ_get d T (x - 1) lb
          have hb' : hh id = some ⟨ver, celQ d T⟩ := hb
          have hlL := celQ_len d T
          obtain ⟨vx, hvx⟩ : ∃ v, d[x]! = v := ⟨_, rfl⟩
          obtain ⟨vy, hvy⟩ : ∃ v, d[(x - 1)]! = v := ⟨_, rfl⟩
          rw [hvx] at hpa
          rw [hvy] at hpb
          generalize celQ d T = L1 at hpa hpb hb' hlL
          refine AWP.seqRegDG [] [] [] mixed (drawF_ok (by kernel_rfl)) (by kernel_rfl) (fun K hK => ?_); simp -implicitDefEqProofs only [go_sem, ↓reduceIte, Nat.reduceEqDiff, Nat.reduceAdd, Nat.reduceLT, Nat.reduceLeDiff, reduceCtorEq, Int.toNat_natCast, e0, e2, e3, e9, hlt', w3, hb', hpa, hpb, la', lb']
          repeat (first | (refine Gdf 22 (jn5 @e0 @e2 @e3 @e9 (jn7 @hlt' @w3 @hb' @hpa @hpb @la' @lb')) ?_) | (refine ⟨by omega, ?_⟩))
          refine Ud (cm.calls vx vy _ _) cm.body ?_
          by_cases hz1 : z vx vy < 0
          · repeat (first | (refine Gdf 22 @hz1 ?_) | (refine ⟨by omega, ?_⟩))
            rw [if_neg (by rw [hvx, hvy]; simp [hz1])] at hi2
            refine hK _ _ _ ?_; clear hK K
            refine Bf ?_
            refine AWP.exit ?_
            refine Ev ?_
            subst hi2
            exact ⟨hax, by omega, ⟨rfl, ⟨hs, hb, ho, by exact Ecf (jn2 @e0 @hs)⟩, by exact Ecf @e1, by exact Ecf @e2, by exact Ecf @e3, by exact Ecf @e9, by exact Ecf @e10⟩⟩
          · repeat (first | (refine Gdf 22 @hz1 ?_) | (refine ⟨by omega, ?_⟩))
            rw [if_pos (by rw [hvx, hvy]; simp [hlt, hz1])] at hi2
            refine hK _ _ _ ?_; clear hK K
            refine Bt ?_
            refine AWP.skip ?_
            refine Ev ?_
            refine AWP.block ?_
            have w4 := w_add1 (a := x) (by omega)
            refine Raf (jn2 @e9 @w4) (fun E K hE hK => ?_); refine hK _ _ _ ?_; clear hE hK K E
            exact ⟨e - (x + 1), by omega, x + 1, rfl, by omega, by omega, hi2, PiAt.cut hid hT hlow _ rfl ⟨rfl, ⟨hs, hb, ho, by exact Ecf (jn2 @e0 @hs)⟩, by exact Ecf @e1, by exact Ecf @e2, by exact Ecf @e3, by exact Er, by exact Ecf @e10⟩⟩
        · have hlt' : ¬ (x : Int) < (e : Nat) := by omega
          rw [if_neg (by simp [hlt])] at hi2
          refine AWP.seqRegDG [] [] [] mixed (drawF_ok (by kernel_rfl)) (by kernel_rfl) (fun K hK => ?_); simp -implicitDefEqProofs only [go_sem, ↓reduceIte, Nat.reduceEqDiff, Nat.reduceAdd, Nat.reduceLT, Nat.reduceLeDiff, reduceCtorEq, Int.toNat_natCast, e0, e2, e3, e9, hlt']
          repeat (first | (refine Gdf 22 @hlt' ?_) | (refine ⟨by omega, ?_⟩))
          refine hK _ _ _ ?_; clear hK K
          refine Bf ?_
          refine AWP.exit ?_
          refine Ev ?_
          subst hi2
          exact ⟨hax, by omega, ⟨rfl, ⟨hs, hb, ho, by exact Ecf @e0⟩, by exact Ecf @e1, by exact Ecf @e2, by exact Ecf @e3, by exact Ecf @e9, by exact Ecf @e10⟩⟩
      clear hb ho e0 e1 e2 e3 e9 e10 hs hi2
      rintro ⟨t, hh, n⟩ ⟨ha2, he2, hn0, ⟨hs, hb, ho, e0⟩, e1, e2, e3, e9, e10⟩
      simp only at hn0 hb ho e0 e1 e2 e3 e9 e10
      subst hn0
      refine AWP.seq ?_
      by_cases hee : i2 = e
      · have hee' : (i2 : Int) = (e : Int) := by omega
        rw [if_pos hee] at hR
        refine Rkf (jn3 @e2 @e9 @hee') ?_
        refine Bt ?_
        refine Rk ?_
        refine AWP.ret ?_
        refine Ev ?_
        exact fin _ _ d true hR.symm (by exact Er) hb ho
      have hee' : ¬ (i2 : Int) = (e : Int) := by omega
      rw [if_neg hee] at hR
      refine Rkf (jn3 @e2 @e9 @hee') ?_
      refine Bs ?_
      refine AWP.seq ?_
      have w2 := w_sub (a := e) (c := a) (by omega) (by omega)
      by_cases h50 : e - a < 50
      · have h50' : ((e - a : Nat) : Int) < 50 := by omega
        rw [if_pos h50] at hR
        refine Rkf (jn4 @e1 @e2 @w2 @h50') ?_
        refine Bt ?_
        refine Rk ?_
        refine AWP.ret ?_
        refine Ev ?_
        exact fin _ _ d false hR.symm (by exact Er) hb ho
      have h50' : ¬ ((e - a : Nat) : Int) < 50 := by omega
      refine Rkf (jn4 @e1 @e2 @w2 @h50') ?_
      refine Bs ?_
      clear hR hee' h50'
      have w3 := w_sub1 (a := i2) (by omega) (by omega)
      rw [← hs] at e0
      have la : i2 < d.size := by omega
      have lb : (i2 - 1) < d.size := by omega
      have la' : ((i2 : Nat) : Int) < d.size := by omega
      have lb' : (((i2 - 1) : Nat) : Int) < d.size := by omega
      have hpa := celQ_get d T i2 la
      have hpb := celQ_get d T (i2 - 1) lb
      have hs1 := celQ_set d T i2 la d[(i2 - 1)]!
      have hs2 := celQ_set (d.setIfInBounds i2 d[(i2 - 1)]!) T (i2 - 1) (by rw [Array.size_setIfInBounds]; exact lb) d[i2]!
      rw [show (d.setIfInBounds i2 d[(i2 - 1)]!).setIfInBounds (i2 - 1) d[i2]! = Sort.swp d i2 (i2 - 1) from rfl] at hs2
      have hb' : hh id = some ⟨ver, celQ d T⟩ := hb
      have hlL := celQ_len d T
      have hlL2 := celQ_len (d.setIfInBounds i2 d[(i2 - 1)]!) T
      rw [Array.size_setIfInBounds] at hlL2
      obtain ⟨vx, hvx⟩ : ∃ v, d[i2]! = v := ⟨_, rfl⟩
      obtain ⟨vy, hvy⟩ : ∃ v, d[(i2 - 1)]! = v := ⟨_, rfl⟩
      rw [hvx] at hpa hs2
      rw [hvy] at hpb hs1 hs2 hlL2
      generalize celQ (d.setIfInBounds i2 vy) T = L2 at hs1 hs2 hlL2
      generalize celQ d T = L1 at hpa hpb hs1 hb' hlL
      refine AWP.seq ?_
      refine AWP.rgD [55, 59] [] [id] mixed (by kernel_rfl) (by kernel_rfl) (fun K hK => ?_) (by kernel_rfl); simp -implicitDefEqProofs only [go_sem, ↓reduceIte, Nat.reduceEqDiff, Nat.reduceAdd, Nat.reduceLT, Nat.reduceLeDiff, reduceCtorEq, Int.toNat_natCast, e0, e9, w3, hb', hpa, hpb, la', lb', hs1, hs2]
      repeat (first | (refine ⟨⟨by omega, by omega⟩, ?_⟩) | (refine ⟨by omega, ?_⟩) | (refine ⟨sub_ers _ _, ?_⟩) | (refine ⟨sub_at _ hb', ?_⟩))
      refine hK _ _ _ ?_; clear hK K
      refine Ev ?_
      obtain ⟨d1, hd1⟩ : ∃ d1, Sort.swp d i2 (i2 - 1) = d1 := ⟨_, rfl⟩
      have hs' : d1.size = N := by rw [← hd1, swp_size, hs]
      rw [hs] at e0
      refine awp_st (PiAt h b id ver cap N T d1 a e g i2 q) ⟨rfl, ⟨hs', by exact Erf @hd1, fun x hx hne => by refine Evf @hne ?_; exact ho x hx hne, by exact Ecf @e0⟩, by exact Ecf @e1, by exact Ecf @e2, by exact Ecf @e3, by exact Ecf @e9, by exact Ecf @e10⟩ ?_
      rw [hd1]
      clear hb ho e0 e1 e2 e3 e9 e10 hs hb' hpa hpb hs1 hs2 hlL hlL2 hvx hvy la lb la' lb' hs' hd1
      rintro ⟨t, hh, n⟩ ⟨hn0, ⟨hs, hb, ho, e0⟩, e1, e2, e3, e9, e10⟩
      simp only at hn0 hb ho e0 e1 e2 e3 e9 e10
      subst hn0
      obtain ⟨d2, hd2⟩ : ∃ d2, pinD (ltZ z) a e i2 d1 = d2 := ⟨_, rfl⟩
      rw [hd2]
      refine AWP.mid (PiAt h b id ver cap N T d2 a e g i2 q) ?_ ?_
      · have w4 := w_sub (a := i2) (c := a) (by omega) (by omega)
        unfold pinD at hd2
        by_cases h2 : i2 - a ≥ 2
        · have h2' : ((i2 - a : Nat) : Int) ≥ 2 := by omega
          rw [if_pos h2] at hd2
          refine Rkf (jn4 @e1 @e9 @w4 @h2') ?_
          refine Bt ?_
          refine Rkf (jn2 @e9 @w3) ?_
          refine AWP.block ?_
          refine AWP.loopM 0 (fun m st => ∃ d, m ≤ i2 - 1 ∧ Sort.shiftDown (ltZ z) m d = d2 ∧ PiAt h b id ver cap N T d a e g i2 q st ∧ st.t 11 = IntV m) (i2 - 1) rfl ⟨d1, Nat.le_refl _, hd2, ⟨rfl, ⟨hs, hb, ho, by exact Ecf @e0⟩, by exact Ecf @e1, by exact Ecf @e2, by exact Ecf @e3, by exact Ecf @e9, by exact Ecf @e10⟩, by exact Er⟩ ?_
          clear hd2 hb ho e0 e1 e2 e3 e9 e10 hs
          rintro m ⟨t, hh, n⟩ ⟨d, hm, hd2, ⟨hn0, ⟨hs, hb, ho, e0⟩, e1, e2, e3, e9, e10⟩, e11⟩ hn1
          simp only at hn0 hb ho e0 e1 e2 e3 e9 e10 e11 hn1
          subst hn0
          refine AWP.seq ?_
          cases m with
          | zero =>
            have hge : ¬ ((0 : Nat) : Int) ≥ 1 := by decide
            refine Rkf (jn2 @e11 @hge) ?_
            refine Bf ?_
            refine AWP.exit ?_
            refine Ev ?_
            subst hd2
            exact ⟨rfl, ⟨hs, hb, ho, by exact Ecf @e0⟩, by exact Ecf @e1, by exact Ecf @e2, by exact Ecf @e3, by exact Ecf @e9, by exact Ecf @e10⟩
          | succ j =>
            have hge : ((j + 1 : Nat) : Int) ≥ 1 := by omega
            have w5 := w_sub1 (a := j + 1) (by omega) (by omega)
            rw [Nat.add_sub_cancel] at w5
            rw [Sort.shiftDown] at hd2
            obtain ⟨X, hX⟩ : ∃ X, j + 1 = X := ⟨_, rfl⟩
            rw [hX] at hge w5 e11 hd2
            refine Rkf (jn2 @e11 @hge) ?_
            refine Bt ?_
            refine AWP.skip ?_
            refine Ev ?_
            refine AWP.seq ?_
            refine AWP.block ?_
            refine AWP.seq ?_
            rw [← hs] at e0
            have la : X < d.size := by omega
            have lb : j < d.size := by omega
            have la' : ((X : Nat) : Int) < d.size := by omega
            have lb' : ((j : Nat) : Int) < d.size := by omega
            have hpa := celQ_get d T X la
            have hpb := celQ_get d T j lb
            have hb' : hh id = some ⟨ver, celQ d T⟩ := hb
            have hlL := celQ_len d T
            obtain ⟨vx, hvx⟩ : ∃ v, d[X]! = v := ⟨_, rfl⟩
            obtain ⟨vy, hvy⟩ : ∃ v, d[j]! = v := ⟨_, rfl⟩
            rw [hvx] at hpa
            rw [hvy] at hpb
            generalize celQ d T = L1 at hpa hpb hb' hlL
            refine AWP.seqRegD [] [] [] mixed (by kernel_rfl) (by kernel_rfl) (fun K hK => .inl ?_) (by kernel_rfl); simp -implicitDefEqProofs only [go_sem, ↓reduceIte, Nat.reduceEqDiff, Nat.reduceAdd, Nat.reduceLT, Nat.reduceLeDiff, reduceCtorEq, Int.toNat_natCast, e0, e3, e11, w5, hb', hpa, hpb, la', lb']
            repeat (refine ⟨by omega, ?_⟩)
            refine Ud (cm.calls vx vy _ _) cm.body ?_
            by_cases hz1 : z vx vy < 0
            · rw [if_neg (by rw [hvx, hvy]; simp [hz1])] at hd2
              refine hK _ _ _ ?_; clear hK K
              refine Bsf @hz1 ?_
              clear hpa hpb hlL hb'
              have la : X < d.size := by omega
              have lb : j < d.size := by omega
              have la' : ((X : Nat) : Int) < d.size := by omega
              have lb' : ((j : Nat) : Int) < d.size := by omega
              have hpa := celQ_get d T X la
              have hpb := celQ_get d T j lb
              have hs1 := celQ_set d T X la d[j]!
              have hs2 := celQ_set (d.setIfInBounds X d[j]!) T j (by rw [Array.size_setIfInBounds]; exact lb) d[X]!
              rw [show (d.setIfInBounds X d[j]!).setIfInBounds j d[X]! = Sort.swp d X j from rfl] at hs2
              have hb' : hh id = some ⟨ver, celQ d T⟩ := hb
              have hlL := celQ_len d T
              have hlL2 := celQ_len (d.setIfInBounds X d[j]!) T
              rw [Array.size_setIfInBounds] at hlL2
              obtain ⟨vx, hvx⟩ : ∃ v, d[X]! = v := ⟨_, rfl⟩
              obtain ⟨vy, hvy⟩ : ∃ v, d[j]! = v := ⟨_, rfl⟩
              rw [hvx] at hpa hs2
              rw [hvy] at hpb hs1 hs2 hlL2
              generalize celQ (d.setIfInBounds X vy) T = L2 at hs1 hs2 hlL2
              generalize celQ d T = L1 at hpa hpb hs1 hb' hlL
              refine AWP.rgD [94, 98] [] [id] mixed (by kernel_rfl) (by kernel_rfl) (fun K hK => ?_) (by kernel_rfl); simp -implicitDefEqProofs only [go_sem, ↓reduceIte, Nat.reduceEqDiff, Nat.reduceAdd, Nat.reduceLT, Nat.reduceLeDiff, reduceCtorEq, Int.toNat_natCast, e0, e3, e11, w5, hb', hpa, hpb, la', lb', hs1, hs2]
              repeat (first | (refine ⟨⟨by omega, by omega⟩, ?_⟩) | (refine ⟨by omega, ?_⟩) | (refine ⟨sub_ers _ _, ?_⟩) | (refine ⟨sub_at _ hb', ?_⟩))
              refine hK _ _ _ ?_; clear hK K
              refine Ev ?_
              refine Raf (jn2 @e11 @w5) (fun E K hE hK => ?_); refine hK _ _ _ ?_; clear hE hK K E
              exact ⟨j, by omega, _, by omega, hd2, PiAt.cut hid hT hlow _ rfl ⟨rfl, ⟨by rw [swp_size, hs], by exact Er, fun x hx hne => by refine Evf @hne ?_; exact ho x hx hne, by exact Ecf (jn2 @e0 @hs)⟩, by exact Ecf @e1, by exact Ecf @e2, by exact Ecf @e3, by exact Ecf @e9, by exact Ecf @e10⟩, by exact Er⟩
            · rw [if_pos (by rw [hvx, hvy]; simp [hz1])] at hd2
              refine hK _ _ _ ?_; clear hK K
              refine Btf @hz1 ?_
              refine AWP.exit ?_
              refine Ev ?_
              subst hd2
              exact ⟨rfl, ⟨hs, hb, ho, by exact Ecf (jn2 @e0 @hs)⟩, by exact Ecf @e1, by exact Ecf @e2, by exact Ecf @e3, by exact Ecf @e9, by exact Ecf @e10⟩
        · have h2' : ¬ ((i2 - a : Nat) : Int) ≥ 2 := by omega
          rw [if_neg h2] at hd2
          subst hd2
          refine Rkf (jn4 @e1 @e9 @w4 @h2') ?_
          refine Bf ?_
          refine AWP.skip ?_
          exact ⟨rfl, ⟨hs, hb, ho, by exact Ecf @e0⟩, by exact Ecf @e1, by exact Ecf @e2, by exact Ecf @e3, by exact Ecf @e9, by exact Ecf @e10⟩
      clear hb ho e0 e1 e2 e3 e9 e10 hs hd2
      rintro ⟨t, hh, n⟩ ⟨hn0, ⟨hs, hb, ho, e0⟩, e1, e2, e3, e9, e10⟩
      simp only at hn0 hb ho e0 e1 e2 e3 e9 e10
      subst hn0
      have w4 := w_sub (a := e) (c := i2) (by omega) (by omega)
      obtain ⟨d3, hd3⟩ : ∃ d3, pinU (ltZ z) e i2 d2 = d3 := ⟨_, rfl⟩
      rw [hd3]
      unfold pinU at hd3
      by_cases h2 : e - i2 ≥ 2
      · have h2' : ((e - i2 : Nat) : Int) ≥ 2 := by omega
        have w5 := w_add1 (a := i2) (by omega)
        rw [if_pos h2] at hd3
        refine Rkf (jn4 @e2 @e9 @w4 @h2') ?_
        refine Bt ?_
        refine Rkf (jn2 @e9 @w5) ?_
        refine AWP.block ?_
        refine AWP.loopM 0 (fun m st => ∃ x d, m = e - x ∧ i2 < x ∧ x ≤ e ∧ Sort.shiftUp (ltZ z) e x d = d3 ∧ PiAt h b id ver cap N T d a e g i2 q st ∧ st.t 12 = IntV x) (e - (i2 + 1)) rfl ⟨i2 + 1, d2, rfl, by omega, by omega, hd3, ⟨rfl, ⟨hs, hb, ho, by exact Ecf @e0⟩, by exact Ecf @e1, by exact Ecf @e2, by exact Ecf @e3, by exact Ecf @e9, by exact Ecf @e10⟩, by exact Er⟩ ?_
        clear hd3 hb ho e0 e1 e2 e3 e9 e10 hs
        rintro m ⟨t, hh, n⟩ ⟨x, d, rfl, hix, hxe, hd3, ⟨hn0, ⟨hs, hb, ho, e0⟩, e1, e2, e3, e9, e10⟩, e12⟩ hn1
        simp only at hn0 hb ho e0 e1 e2 e3 e9 e10 e12 hn1
        subst hn0
        refine AWP.seq ?_
        rw [Sort.shiftUp] at hd3
        by_cases hlt : x < e
        · have hlt' : (x : Int) < (e : Nat) := by omega
          rw [if_pos hlt] at hd3
          have w6 := w_sub1 (a := x) (by omega) (by omega)
          have w7 := w_add1 (a := x) (by omega)
          refine Rkf (jn3 @e2 @e12 @hlt') ?_
          refine Bt ?_
          refine AWP.skip ?_
          refine Ev ?_
          refine AWP.seq ?_
          refine AWP.block ?_
          refine AWP.seq ?_
          rw [← hs] at e0
          have la : x < d.size := by omega
          have lb : (x - 1) < d.size := by omega
          have la' : ((x : Nat) : Int) < d.size := by omega
          have lb' : (((x - 1) : Nat) : Int) < d.size := by omega
          have hpa := celQ_get d T x la
          have hpb := celQ_get d T (x - 1) lb
          have hb' : hh id = some ⟨ver, celQ d T⟩ := hb
          have hlL := celQ_len d T
          obtain ⟨vx, hvx⟩ : ∃ v, d[x]! = v := ⟨_, rfl⟩
          obtain ⟨vy, hvy⟩ : ∃ v, d[(x - 1)]! = v := ⟨_, rfl⟩
          rw [hvx] at hpa
          rw [hvy] at hpb
          generalize celQ d T = L1 at hpa hpb hb' hlL
          refine AWP.seqRegD [] [] [] mixed (by kernel_rfl) (by kernel_rfl) (fun K hK => .inl ?_) (by kernel_rfl); simp -implicitDefEqProofs only [go_sem, ↓reduceIte, Nat.reduceEqDiff, Nat.reduceAdd, Nat.reduceLT, Nat.reduceLeDiff, reduceCtorEq, Int.toNat_natCast, e0, e3, e12, w6, hb', hpa, hpb, la', lb']
          repeat (refine ⟨by omega, ?_⟩)
          refine Ud (cm.calls vx vy _ _) cm.body ?_
          by_cases hz1 : z vx vy < 0
          · rw [if_neg (by rw [hvx, hvy]; simp [hz1])] at hd3
            refine hK _ _ _ ?_; clear hK K
            refine Bsf @hz1 ?_
            clear hpa hpb hlL hb'
            have la : x < d.size := by omega
            have lb : (x - 1) < d.size := by omega
            have la' : ((x : Nat) : Int) < d.size := by omega
            have lb' : (((x - 1) : Nat) : Int) < d.size := by omega
            have hpa := celQ_get d T x la
            have hpb := celQ_get d T (x - 1) lb
            have hs1 := celQ_set d T x la d[(x - 1)]!
            have hs2 := celQ_set (d.setIfInBounds x d[(x - 1)]!) T (x - 1) (by rw [Array.size_setIfInBounds]; exact lb) d[x]!
            rw [show (d.setIfInBounds x d[(x - 1)]!).setIfInBounds (x - 1) d[x]! = Sort.swp d x (x - 1) from rfl] at hs2
            have hb' : hh id = some ⟨ver, celQ d T⟩ := hb
            have hlL := celQ_len d T
            have hlL2 := celQ_len (d.setIfInBounds x d[(x - 1)]!) T
            rw [Array.size_setIfInBounds] at hlL2
            obtain ⟨vx, hvx⟩ : ∃ v, d[x]! = v := ⟨_, rfl⟩
            obtain ⟨vy, hvy⟩ : ∃ v, d[(x - 1)]! = v := ⟨_, rfl⟩
            rw [hvx] at hpa hs2
            rw [hvy] at hpb hs1 hs2 hlL2
            generalize celQ (d.setIfInBounds x vy) T = L2 at hs1 hs2 hlL2
            generalize celQ d T = L1 at hpa hpb hs1 hb' hlL
            refine AWP.rgD [134, 138] [] [id] mixed (by kernel_rfl) (by kernel_rfl) (fun K hK => ?_) (by kernel_rfl); simp -implicitDefEqProofs only [go_sem, ↓reduceIte, Nat.reduceEqDiff, Nat.reduceAdd, Nat.reduceLT, Nat.reduceLeDiff, reduceCtorEq, Int.toNat_natCast, e0, e3, e12, w6, hb', hpa, hpb, la', lb', hs1, hs2]
            repeat (first | (refine ⟨⟨by omega, by omega⟩, ?_⟩) | (refine ⟨by omega, ?_⟩) | (refine ⟨sub_ers _ _, ?_⟩) | (refine ⟨sub_at _ hb', ?_⟩))
            refine hK _ _ _ ?_; clear hK K
            refine Ev ?_
            refine Raf (jn2 @e12 @w7) (fun E K hE hK => ?_); refine hK _ _ _ ?_; clear hE hK K E
            exact ⟨e - (x + 1), by omega, x + 1, _, rfl, by omega, by omega, hd3, PiAt.cut hid hT hlow _ rfl ⟨rfl, ⟨by rw [swp_size, hs], by exact Er, fun x hx hne => by refine Evf @hne ?_; exact ho x hx hne, by exact Ecf (jn2 @e0 @hs)⟩, by exact Ecf @e1, by exact Ecf @e2, by exact Ecf @e3, by exact Ecf @e9, by exact Ecf @e10⟩, by exact Er⟩
          · rw [if_pos (by rw [hvx, hvy]; simp [hz1])] at hd3
            refine hK _ _ _ ?_; clear hK K
            refine Btf @hz1 ?_
            refine AWP.exit ?_
            refine Ev ?_
            subst hd3
            exact ⟨hee, ha2, by omega, h50, ⟨rfl, ⟨hs, hb, ho, by exact Ecf (jn2 @e0 @hs)⟩, by exact Ecf @e1, by exact Ecf @e2, by exact Ecf @e3, by exact Ecf @e9, by exact Ecf @e10⟩⟩
        · have hlt' : ¬ (x : Int) < (e : Nat) := by omega
          rw [if_neg hlt] at hd3
          subst hd3
          refine Rkf (jn3 @e2 @e12 @hlt') ?_
          refine Bf ?_
          refine AWP.exit ?_
          refine Ev ?_
          exact ⟨hee, ha2, by omega, h50, ⟨rfl, ⟨hs, hb, ho, by exact Ecf @e0⟩, by exact Ecf @e1, by exact Ecf @e2, by exact Ecf @e3, by exact Ecf @e9, by exact Ecf @e10⟩⟩
      · have h2' : ¬ ((e - i2 : Nat) : Int) ≥ 2 := by omega
        rw [if_neg h2] at hd3
        subst hd3
        refine Rkf (jn4 @e2 @e9 @w4 @h2') ?_
        refine Bf ?_
        refine AWP.skip ?_
        exact ⟨hee, ha2, by omega, h50, ⟨rfl, ⟨hs, hb, ho, by exact Ecf @e0⟩, by exact Ecf @e1, by exact Ecf @e2, by exact Ecf @e3, by exact Ecf @e9, by exact Ecf @e10⟩⟩
    · clear hb ho e0 e1 e2 e3 e9 e10 hs hi2
      rintro ⟨t, hh, n⟩ ⟨hee, ha2, he2, h50, hn0, ⟨hs, hb, ho, e0⟩, e1, e2, e3, e9, e10⟩
      simp only at hn0 hb ho e0 e1 e2 e3 e9 e10
      subst hn0
      rw [if_neg hee, if_neg h50] at hR
      have w6 := w_add1 (a := q) (by omega)
      refine Raf (jn2 @e10 @w6) (fun E K hE hK => ?_); refine hK _ _ _ ?_; clear hE hK K E
      exact ⟨5 - (q + 1), by omega, q + 1, i2, _, rfl, by omega, ha2, by omega, by rw [show 5 - (q + 1) = s by omega]; exact hR, PiAt.cut hid hT hlow _ rfl ⟨rfl, ⟨hs, hb, ho, by exact Ecf @e0⟩, by exact Ecf @e1, by exact Ecf @e2, by exact Ecf @e3, by exact Ecf @e9, by exact Er⟩⟩
  · have hq5' : ¬ (q : Int) < 5 := by omega
    rw [show 5 - q = 0 by omega] at hR
    refine Rkf (jn2 @e10 @hq5') ?_
    refine Bf ?_
    refine AWP.exit ?_
    refine Ev ?_
    refine Rk ?_
    refine AWP.ret ?_
    refine Ev ?_
    exact fin _ _ d false hR.symm (by exact Er) hb ho
end Go.Proofs.YtihgnpboabpchaaGreatDoor.PdSt
namespace Go.Proofs.YtihgnpboabpchaaGreatDoor.PdSt
set_option linter.unusedSimpArgs false
set_option linter.unusedVariables false
set_option linter.unnecessarySimpa false
open Go Am
set_option maxRecDepth 100000
abbrev UV (x : Nat) : AV := .one (.p (.v (.int .u64 (x : Int))))
theorem xorI_eq (a b : Nat) (ha : a < 18446744073709551616) (hb : b < 18446744073709551616) : xorI .u64 (a : Int) (b : Int) = ((a ^^^ b : Nat) : Int) := bits_xor_u64_nat a b ha hb
theorem andI_eq (a b : Nat) (ha : a < 18446744073709551616) (hb : b < 18446744073709551616) : andI .u64 (a : Int) (b : Int) = ((a &&& b : Nat) : Int) := bits_and_u64_nat a b ha hb
theorem w_u64 (x : Nat) : IntKind.u64.wrap (x : Int) = ((x % 18446744073709551616 : Nat) : Int) := by rw [IntKind.wrap_u64]; omega
theorem bitLen_eq' (x : Nat) (h : x < 2 ^ 64) : Lib.bitLen x = Sort.bitsLen x := by
  induction x using Nat.strongRecOn with
  | _ x ih =>
    by_cases h0 : x = 0
    · subst h0; rfl
    · rw [Lib.bitLen_half x h0 h, ih (x / 2) (by omega) (by omega)]
      unfold Sort.bitsLen
      rw [if_neg h0, Nat.log2_def x]
      by_cases h2 : 2 ≤ x
      · rw [if_pos h2, if_neg (by omega)]; omega
      · obtain rfl : x = 1 := by omega
        simp
theorem bitsLen_ok (n : Nat) (hn : n < 4611686018427387904) (h : Heap) (b : Nat) : ACalls Tryz.prog 118 [UV n] h b 0 (fun r h' => r = IntV (Sort.bitsLen n) ∧ h' = h) :=
  ACalls.ofVals (xs := [.int .u64 (n : Int)]) (fun w => by
    have hl := Tryz.bits_Len (n : Int) w (by omega) (by omega)
    rwa [Int.toNat_natCast, bitLen_eq' n (by omega)] at hl)
theorem nextPow_ok (n : Nat) (hnn : n < 4611686018427387904) (h : Heap) (b : Nat) : ACalls Tryz.prog 198 [IntV n] h b 0 (fun r h' => r = UV (1 <<< Sort.bitsLen n) ∧ h' = h) := by
  refine ACalls.enter Tryz.func198 rfl (by simp [Tryz.ntmps198]) (fun ι w hn H => ?_)
  have hu : IntKind.u64.wrap (n : Int) = (n : Int) := by rw [w_u64, Nat.mod_eq_of_lt (by omega)]
  have hk : Sort.bitsLen n ≤ 62 := (Sort.bitsLen_le_iff n 62).2 (by omega)
  obtain ⟨q, hq⟩ : ∃ q, Sort.bitsLen n = q := ⟨_, rfl⟩
  have k1 := bitsLen_ok n hnn h b
  rw [hq] at k1 hk ⊢
  have hneg : ¬ (q : Int) < 0 := by omega
  have hpow : IntKind.u64.wrap (1 * (2 : Int) ^ (min q 64)) = ((1 <<< q : Nat) : Int) := by
    have h1 : (2 : Nat) ^ q ≤ 2 ^ 62 := Nat.pow_le_pow_right (by decide) hk
    rw [Nat.min_eq_left (by omega), Int.one_mul, Nat.one_shiftLeft, show ((2 : Int) ^ q) = ((2 ^ q : Nat) : Int) by push_cast; rfl, w_u64]
    generalize (2 : Nat) ^ q = p at h1
    omega
  refine Rk ?_
  refine Rgf @hu (fun E K hE hK => ?_)
  refine Us k1 body_118 ?_
  refine Evf (jn2 @hneg @hpow) ?_
  refine hK _ _ _ ?_; clear hE hK K E
  refine AWP.ret ?_
  exact Ends.pure hn H (fun _ _ => rfl) (r0 := UV (1 <<< q)) (by rw [show Tryz.f198.results.toList = [.tmp 2] from rfl]; exact Er) (.v _) ⟨rfl, rfl⟩
abbrev rnB (v : Nat) (x : Nat) : Blk := ⟨v, [.p (.v (.int .u64 (x : Int)))]⟩
theorem xorshift_ok (X S sv : Nat) (hX : X < 18446744073709551616) {h : Heap} {b : Nat} (hS : S < b) (hs : h S = some (rnB sv X)) : ACalls Tryz.prog 199 [.one (.ptr S sv 0)] h b 0 (fun r h' => r = UV (Sort.xorNextN X) ∧ h' = upd h S (rnB sv (Sort.xorNextN X))) := by
  refine ACalls.enter Tryz.func199 rfl (by simp [Tryz.ntmps199]) (fun ι w hn H => ?_)
  obtain ⟨A, hA⟩ : ∃ A : Nat, A = X ^^^ (X * 8192 % 18446744073709551616) := ⟨_, rfl⟩
  obtain ⟨B, hB⟩ : ∃ B : Nat, B = A ^^^ (A / 128) := ⟨_, rfl⟩
  obtain ⟨D, hD⟩ : ∃ D : Nat, D = B ^^^ (B * 131072 % 18446744073709551616) := ⟨_, rfl⟩
  have lA : A < 18446744073709551616 := by rw [hA]; exact Nat.xor_lt_two_pow (n := 64) (by omega) (by omega)
  have lB : B < 18446744073709551616 := by rw [hB]; exact Nat.xor_lt_two_pow (n := 64) (by omega) (by omega)
  have n13 : ¬ (13 : Int) < 0 := by decide
  have n7 : ¬ (7 : Int) < 0 := by decide
  have n17 : ¬ (17 : Int) < 0 := by decide
  have e1 : xorI .u64 (X : Int) (IntKind.u64.wrap ((X : Int) * 2 ^ (min (Int.toNat 13) 64))) = (A : Int) := by
    rw [show ((2 : Int) ^ (min (Int.toNat 13) 64)) = 8192 from rfl, show ((X : Int) * 8192) = ((X * 8192 : Nat) : Int) by omega, w_u64, xorI_eq _ _ hX (by omega), hA]
  have e2 : xorI .u64 (A : Int) (Int.fdiv (A : Int) (2 ^ (min (Int.toNat 7) 64))) = (B : Int) := by
    rw [show ((2 : Int) ^ (min (Int.toNat 7) 64)) = 128 from rfl, Int.fdiv_eq_ediv_of_nonneg _ (by decide), show ((A : Int) / 128) = ((A / 128 : Nat) : Int) by omega, xorI_eq _ _ lA (by omega), hB]
  have e3 : xorI .u64 (B : Int) (IntKind.u64.wrap ((B : Int) * 2 ^ (min (Int.toNat 17) 64))) = (D : Int) := by
    rw [show ((2 : Int) ^ (min (Int.toNat 17) 64)) = 131072 from rfl, show ((B : Int) * 131072) = ((B * 131072 : Nat) : Int) by omega, w_u64, xorI_eq _ _ lB (by omega), hD]
  have hv : Sort.xorNextN X = D := by unfold Sort.xorNextN; simp only []; rw [← hA, ← hB, ← hD]
  rw [hv]
  clear hA hB hD hv
  refine Rk ?_
  refine AWP.seqRegD [5, 8] [] [S] mixed (by kernel_rfl) (by kernel_rfl) (fun K hK => .inl ?_) (by kernel_rfl); simp -implicitDefEqProofs only [go_sem, ↓reduceIte, Nat.reduceEqDiff, Nat.reduceAdd, Nat.reduceLT, Nat.reduceLeDiff, reduceCtorEq, Int.toNat_natCast, hs, n13, e1]
  refine ⟨sub_ers _ _, sub_ers _ _, sub_at _ hs, ?_⟩
  refine hK _ _ _ ?_; clear hK K
  refine awp_st (fun st => st.n = 0 ∧ st.h S = some (rnB sv A) ∧ (∀ x, x ≠ S → st.h x = h x) ∧ st.t 0 = .one (.ptr S sv 0)) ⟨rfl, by exact Er, fun x hx => by exact Ecf @hx, by exact Er⟩ ?_
  clear hs
  rintro ⟨t, hh, n⟩ ⟨rfl, hs, ho, e0⟩
  simp only at hs ho e0
  refine AWP.seqRegD [14, 17] [] [S] mixed (by kernel_rfl) (by kernel_rfl) (fun K hK => .inl ?_) (by kernel_rfl); simp -implicitDefEqProofs only [go_sem, ↓reduceIte, Nat.reduceEqDiff, Nat.reduceAdd, Nat.reduceLT, Nat.reduceLeDiff, reduceCtorEq, Int.toNat_natCast, e0, hs, n7, e2]
  refine ⟨sub_ers _ _, sub_ers _ _, sub_at _ hs, ?_⟩
  refine hK _ _ _ ?_; clear hK K
  refine awp_st (fun st => st.n = 0 ∧ st.h S = some (rnB sv B) ∧ (∀ x, x ≠ S → st.h x = h x) ∧ st.t 0 = .one (.ptr S sv 0)) ⟨rfl, by exact Er, fun x hx => by refine Evf @hx ?_; exact ho x hx, by exact Erf @e0⟩ ?_
  clear hs ho e0
  rintro ⟨t, hh, n⟩ ⟨rfl, hs, ho, e0⟩
  simp only at hs ho e0
  refine AWP.seqRegD [23, 26] [] [S] mixed (by kernel_rfl) (by kernel_rfl) (fun K hK => .inl ?_) (by kernel_rfl); simp -implicitDefEqProofs only [go_sem, ↓reduceIte, Nat.reduceEqDiff, Nat.reduceAdd, Nat.reduceLT, Nat.reduceLeDiff, reduceCtorEq, Int.toNat_natCast, e0, hs, n17, e3]
  refine ⟨sub_ers _ _, sub_ers _ _, sub_at _ hs, ?_⟩
  refine hK _ _ _ ?_; clear hK K
  refine awp_st (fun st => st.n = 0 ∧ st.h S = some (rnB sv D) ∧ (∀ x, x ≠ S → st.h x = h x) ∧ st.t 0 = .one (.ptr S sv 0)) ⟨rfl, by exact Er, fun x hx => by refine Evf @hx ?_; exact ho x hx, by exact Erf @e0⟩ ?_
  clear hs ho e0
  rintro ⟨t, hh, n⟩ ⟨rfl, hs, ho, e0⟩
  simp only at hs ho e0
  refine Rkf (jn2 @e0 @hs) ?_
  refine AWP.ret ?_
  refine Ev ?_
  exact Ends.turn hn H hS (blk := rnB sv D) (upd_all hs (fun x _ hx => ho x hx)) rfl (r0 := UV D) (by rw [show Tryz.f199.results.toList = [.tmp 2] from rfl]; exact Er) (.v _) ⟨rfl, rfl⟩
theorem RwAt.cut1 {h : Heap} {b id ver cap n : Nat} {T : List Cell} {d : Array El} {st : St} (hid : id < b) (hT : lowCs 0 T = true) (hlow : ∀ id blk, h id = some blk → ∀ c ∈ blk.cells, lowC b c = true) (C : Ctx) (hC : C.b = b) (m : Nat)
    (r : RwAt h b id ver cap n T d st) : RwAt h b id ver cap n T d (st.cut C m) := by
  subst hC
  obtain ⟨t, hh, m'⟩ := st
  obtain ⟨h1, h2, h3, h4⟩ := r
  simp only at h2 h3 h4
  refine ⟨h1, cutH_same (by omega) h2 (lowCs_app (lowCs_p _ _) (lowCs_of fun c hc => lowC_mono (Nat.zero_le _) (lowCs_mem hT c hc))), fun x hx hne => ?_, ?_⟩
  · show cutH (C.b + m) hh x = h x
    have e := h3 x hx hne
    cases h0 : h x with
    | none => unfold cutH; rw [if_pos (by omega), e, h0]; rfl
    | some blk => exact cutH_same (by omega) (e.trans h0) (lowCs_of fun c hc => lowC_mono (Nat.le_add_right _ _) (hlow x blk h0 c hc))
  · show cutV _ (t 0) = _
    rw [h4]; exact cutV_win (by omega)
def bpRest (a L M i0 : Nat) : Nat → Nat → UInt64 × Array El → Array El
  | 0, _, st => st.2
  | k + 1, t, st => bpRest a L M i0 k (t + 1) (Sort.breakStep a L M st (i0 + t))
theorem breakPatterns_eq (d : Array El) (a e : Nat) : Sort.breakPatterns d a e = if 8 ≤ e - a then bpRest a (e - a) (1 <<< Sort.bitsLen (e - a)) (a + (e - a) / 4 * 2 - 1) 3 0 (UInt64.ofNat (e - a), d) else d := rfl
structure BpAt (h : Heap) (b id ver cap N : Nat) (T : List Cell) (d : Array El) (a l M : Nat) (r : Nat) (idx : Nat) (st : St) : Prop where
  n : st.n = 1
  row : RwAt h b id ver cap N T d st
  rn : st.h b = some (rnB 0 r)
  a : st.t 1 = IntV a
  l : st.t 8 = IntV l
  p : st.t 9 = .one (.ptr b 0 0)
  m : st.t 10 = UV M
  i : st.t 11 = IntV idx
theorem BpAt.cut {h : Heap} {b id ver cap N : Nat} {T : List Cell} {d : Array El} {a l M r idx : Nat} {st : St} (hid : id < b) (hT : lowCs 0 T = true) (hlow : ∀ id blk, h id = some blk → ∀ c ∈ blk.cells, lowC b c = true) (C : Ctx) (hC : C.b = b)
    (k : BpAt h b id ver cap N T d a l M r idx st) : BpAt h b id ver cap N T d a l M r idx (st.cut C 1) := by
  obtain ⟨t, hh, n⟩ := st
  obtain ⟨_, h1, h5, h6, h7, h8, h9, h10⟩ := k
  simp only at h5 h6 h7 h8 h9 h10
  refine ⟨rfl, RwAt.cut1 hid hT hlow C hC 1 h1, cutH_same (by omega) h5 rfl, ?_, ?_, ?_, ?_, ?_⟩
  · show cutV _ (t 1) = _; rw [h6]; rfl
  · show cutV _ (t 8) = _; rw [h7]; rfl
  · show cutV _ (t 9) = _; rw [h8]; exact cutV_ptr (by omega)
  · show cutV _ (t 10) = _; rw [h9]; rfl
  · show cutV _ (t 11) = _; rw [h10]; rfl
theorem breakPatterns_ok (g : FuncId) {h : Heap} {b id ver cap : Nat} {d0 : Array El} {T : List Cell} (k : PdAt h id ver d0 T) (hid : id < b) (a e : Nat) (hae : a ≤ e) (he : e ≤ d0.size) :
    ACalls Tryz.prog 161 [winQ id ver cap d0.size, IntV a, IntV e, cloV g] h b 0
      (fun r h' => r = .tup [] ∧ h' = upd h id (rowQ ver (Sort.breakPatterns d0 a e) T)) := by
  refine ACalls.enter Tryz.func161 rfl (by simp [Tryz.ntmps161]) (fun ι w hn H => ?_)
  have hlow := H.lowCells
  have hz := k.size
  obtain ⟨N, hN⟩ : ∃ N, d0.size = N := ⟨_, rfl⟩
  have hrow := k.row
  have hT := k.low
  rw [hN] at hz he ⊢
  rw [breakPatterns_eq]
  obtain ⟨l, hl⟩ : ∃ l, e - a = l := ⟨_, rfl⟩
  have w1 : IntKind.i64.wrap ((e : Int) - (a : Int)) = (l : Int) := by rw [w_sub hae (by omega)]; omega
  rw [hl]
  refine Rkf @w1 ?_
  by_cases h8 : 8 ≤ l
  · have h8' : (l : Int) ≥ 8 := by omega
    rw [if_pos h8]
    refine Rkf @h8' ?_
    refine Bt ?_
    obtain ⟨q, hq⟩ : ∃ q, l / 4 = q := ⟨_, rfl⟩
    rw [hq]
    obtain ⟨M, hM⟩ : ∃ M, 1 <<< Sort.bitsLen l = M := ⟨_, rfl⟩
    have hM2 : M ≤ 2 * l := by rw [← hM, Nat.one_shiftLeft]; exact Sort.two_pow_bitsLen_le (by omega)
    have hM1 : 1 ≤ M := by rw [← hM, Nat.one_shiftLeft]; exact Nat.one_le_two_pow
    rw [hM]
    have hu : IntKind.u64.wrap (l : Int) = (l : Int) := by rw [w_u64, Nat.mod_eq_of_lt (by omega)]
    have k1 := nextPow_ok l (by omega) (upd h b (rnB 0 l)) (b + 1)
    rw [hM] at k1
    refine Rkf @hu ?_
    refine Rg (fun E K hE hK => ?_)
    refine Us k1 body_198 ?_
    refine hK _ _ _ ?_; clear hE hK K E
    have h40 : ¬ (4 : Int) = 0 := by decide
    have w2 : IntKind.i64.wrap (Int.tdiv (l : Int) 4) = (q : Int) := by rw [w_quo4 (by omega)]; omega
    have m2 : IntKind.i64.wrap ((q : Int) * 2) = ((q * 2 : Nat) : Int) := by rw [wrap_i64 (by omega) (by omega)]; omega
    have p2 := w_add (a := a) (c := q * 2) (by omega)
    have s2 := w_sub1 (a := a + q * 2) (by omega) (by omega)
    have s3 := w_add1 (a := a + q * 2) (by omega)
    refine Rkf (jn5 @w2 @m2 @p2 @s2 @h40) ?_
    refine AWP.block ?_
    obtain ⟨df, hdf⟩ : ∃ df, bpRest a l M (a + q * 2 - 1) 3 0 (UInt64.ofNat l, d0) = df := ⟨_, rfl⟩
    rw [hdf]
    refine AWP.loopM 1 (fun m st => ∃ r d, m ≤ 3 ∧ bpRest a l M (a + q * 2 - 1) m (3 - m) (r, d) = df ∧ BpAt h b id ver cap N T d a l M r.toNat (a + q * 2 - 1 + (3 - m)) st) 3 rfl
      ⟨UInt64.ofNat l, d0, Nat.le_refl _, hdf, ⟨rfl, ⟨hN, by refine Evf (show ¬ id = b by omega) ?_; exact hrow, fun x hx hne => by exact Ecf (show ¬ x = b by omega), by exact Er⟩, by rw [UInt64.toNat_ofNat_of_lt' (by show l < 18446744073709551616; omega)]; exact Er, by exact Er, by exact Er, by exact Er, by exact Er, by exact Er⟩⟩ ?_
    clear hdf k1 hu hrow hN k w1 hM
    rintro m ⟨t, hh, n⟩ ⟨r, d, hm3, hd, rfl, ⟨hs, hb, ho, e0⟩, hrn, e1, e8, e9, e10, e11⟩ hn1
    simp only at hb ho e0 hrn e1 e8 e9 e10 e11 hn1
    refine AWP.seq ?_
    cases m with
    | zero =>
      have hgt : ¬ ((a + q * 2 - 1 + 3 : Nat) : Int) ≤ ((a + q * 2 + 1 : Nat) : Int) := by omega
      rw [show a + q * 2 - 1 + (3 - 0) = a + q * 2 - 1 + 3 from rfl] at e11
      refine Rkf (jn3 @e1 @e8 (jn7 @e11 @w2 @m2 @p2 @s3 @h40 @hgt)) ?_
      refine Bf ?_
      refine AWP.exit ?_
      refine Ev ?_
      subst hd
      exact RwAt.ends (C := ⟨_, b, ι, h, w, x0⟩) hid hT hn H hb ho rfl (frz_tup0 _ _) ⟨rfl, rfl⟩
    | succ m =>
      obtain ⟨i, hi⟩ : ∃ i, a + q * 2 - 1 + (3 - (m + 1)) = i := ⟨_, rfl⟩
      have hid2 : ¬ b = id := by omega
      rw [hi] at e11
      have hle : ((i : Nat) : Int) ≤ ((a + q * 2 + 1 : Nat) : Int) := by omega
      have hstep : bpRest a l M (a + q * 2 - 1) (m + 1) (3 - (m + 1)) (r, d) = bpRest a l M (a + q * 2 - 1) m (3 - m) (Sort.breakStep a l M (r, d) i) := by
        rw [← hi]
        show bpRest a l M (a + q * 2 - 1) m (3 - (m + 1) + 1) _ = _
        rw [show 3 - (m + 1) + 1 = 3 - m by omega]
      rw [hstep] at hd
      clear hstep
      unfold Sort.breakStep at hd
      dsimp only at hd
      refine Rkf (jn3 @e1 @e8 (jn7 @e11 @w2 @m2 @p2 @s3 @h40 @hle)) ?_
      refine Bt ?_
      refine AWP.skip ?_
      refine Ev ?_
      refine AWP.seq ?_
      refine AWP.block ?_
      obtain ⟨r2, hr2⟩ : ∃ r2, Sort.xorNext r = r2 := ⟨_, rfl⟩
      rw [hr2] at hd
      have hx : Sort.xorNextN r.toNat = r2.toNat := by rw [← Sort.xorNext_toNat, hr2]
      have k2 := xorshift_ok r.toNat b 0 r.toNat_lt (h := hh) (b := b + 1) (by omega) hrn
      rw [hx] at k2
      have u1 : IntKind.u64.wrap ((M : Int) - 1) = ((M - 1 : Nat) : Int) := by rw [show ((M : Int) - 1) = ((M - 1 : Nat) : Int) by omega, w_u64, Nat.mod_eq_of_lt (by omega)]
      have hrl := r2.toNat_lt
      have u2 := andI_eq r2.toNat (M - 1) (by omega) (by omega)
      obtain ⟨o1, ho1⟩ : ∃ o1, r2.toNat &&& (M - 1) = o1 := ⟨_, rfl⟩
      have ho2 : o1 ≤ M - 1 := by rw [← ho1]; exact Nat.and_le_right
      rw [ho1] at u2 hd
      have u3 : IntKind.i64.wrap (o1 : Int) = (o1 : Int) := wrap_i64 (by omega) (by omega)
      clear hx ho1 hr2
      refine Rgf @e9 (fun E K hE hK => ?_)
      refine Us k2 body_199 ?_
      refine Evf (jn4 @e10 @u1 @u2 @u3) ?_
      refine hK _ _ _ ?_; clear hE hK K E
      obtain ⟨o, hov⟩ : ∃ o, (if o1 ≥ l then o1 - l else o1) = o := ⟨_, rfl⟩
      rw [hov] at hd
      have hol : o < l := by rw [← hov]; split <;> omega
      refine AWP.mid (fun st => BpAt h b id ver cap N T d a l M r2.toNat i st ∧ st.t 12 = IntV o) ?_ ?_
      · by_cases hge : o1 ≥ l
        · have hge' : (o1 : Int) ≥ (l : Int) := by omega
          rw [if_pos hge] at hov
          have u4 := w_sub (a := o1) (c := l) (by omega) (by omega)
          rw [hov] at u4
          refine Rkf (jn2 @e8 @hge') ?_
          refine Bt ?_
          refine Raf (jn2 @e8 @u4) (fun E K hE hK => ?_); refine hK _ _ _ ?_; clear hE hK K E
          exact ⟨⟨rfl, ⟨hs, by refine Evf (show ¬ id = b by omega) ?_; exact hb, fun x hx hne => by refine Evf (show ¬ x = b by omega) ?_; exact ho x hx hne, by exact Ecf @e0⟩, by exact Er, by exact Ecf @e1, by exact Ecf @e8, by exact Ecf @e9, by exact Ecf @e10, by exact Ecf @e11⟩, by exact Er⟩
        · have hge' : ¬ (o1 : Int) ≥ (l : Int) := by omega
          rw [if_neg hge] at hov
          subst hov
          refine Rkf (jn2 @e8 @hge') ?_
          refine Bf ?_
          refine AWP.skip ?_
          exact ⟨⟨rfl, ⟨hs, by refine Evf (show ¬ id = b by omega) ?_; exact hb, fun x hx hne => by refine Evf (show ¬ x = b by omega) ?_; exact ho x hx hne, by exact Ecf @e0⟩, by exact Er, by exact Ecf @e1, by exact Ecf @e8, by exact Ecf @e9, by exact Ecf @e10, by exact Ecf @e11⟩, by exact Er⟩
      clear hb ho e0 hrn e1 e8 e9 e10 e11 hs k2
      rintro ⟨t, hh, n⟩ ⟨⟨rfl, ⟨hs, hb, ho, e0⟩, hrn, e1, e8, e9, e10, e11⟩, e12⟩
      simp only at hb ho e0 hrn e1 e8 e9 e10 e11 e12
      have m7 := w_add (a := a) (c := o) (by omega)
      have w4 := w_add1 (a := i) (by omega)
      obtain ⟨Y, hY⟩ : ∃ Y, a + o = Y := ⟨_, rfl⟩
      rw [hY] at m7 hd
      rw [← hs] at e0
      have la : i < d.size := by omega
      have lb : Y < d.size := by omega
      have la' : ((i : Nat) : Int) < d.size := by omega
      have lb' : ((Y : Nat) : Int) < d.size := by omega
      have hpa := celQ_get d T i la
      have hpb := celQ_get d T Y lb
      have hs1 := celQ_set d T i la d[Y]!
      have hs2 := celQ_set (d.setIfInBounds i d[Y]!) T Y (by rw [Array.size_setIfInBounds]; exact lb) d[i]!
      rw [show (d.setIfInBounds i d[Y]!).setIfInBounds Y d[i]! = Sort.swp d i Y from rfl] at hs2
      have hb' : hh id = some ⟨ver, celQ d T⟩ := hb
      have hlL := celQ_len d T
      have hlL2 := celQ_len (d.setIfInBounds i d[Y]!) T
      rw [Array.size_setIfInBounds] at hlL2
      obtain ⟨vx, hvx⟩ : ∃ v, d[i]! = v := ⟨_, rfl⟩
      obtain ⟨vy, hvy⟩ : ∃ v, d[Y]! = v := ⟨_, rfl⟩
      rw [hvx] at hpa hs2
      rw [hvy] at hpb hs1 hs2 hlL2
      generalize celQ (d.setIfInBounds i vy) T = L2 at hs1 hs2 hlL2
      generalize celQ d T = L1 at hpa hpb hs1 hb' hlL
      refine AWP.rgD [60, 64] [] [id] mixed (by kernel_rfl) (by kernel_rfl) (fun K hK => ?_) (by kernel_rfl); simp -implicitDefEqProofs only [go_sem, ↓reduceIte, Nat.reduceEqDiff, Nat.reduceAdd, Nat.reduceLT, Nat.reduceLeDiff, reduceCtorEq, Int.toNat_natCast, e0, e1, e11, e12, m7, hb', hpa, hpb, la', lb', hs1, hs2]
      repeat (first | (refine ⟨⟨by omega, by omega⟩, ?_⟩) | (refine ⟨by omega, ?_⟩) | (refine ⟨sub_ers _ _, ?_⟩) | (refine ⟨sub_at _ hb', ?_⟩))
      refine hK _ _ _ ?_; clear hK K
      refine Ev ?_
      refine Raf (jn2 @e11 @w4) (fun E K hE hK => ?_); refine hK _ _ _ ?_; clear hE hK K E
      refine ⟨Nat.le_refl _, m, by omega, r2, _, by omega, hd, BpAt.cut hid hT hlow _ rfl ⟨rfl, ⟨by rw [swp_size, hs], by exact Er, fun x hx hne => by refine Evf @hne ?_; exact ho x hx hne, by exact Ecf (jn2 @e0 @hs)⟩, by refine Evf @hid2 ?_; exact hrn, by exact Ecf @e1, by exact Ecf @e8, by exact Ecf @e9, by exact Ecf @e10, by exact Ecf (show a + q * 2 - 1 + (3 - m) = i + 1 by omega)⟩⟩
  · have h8' : ¬ (l : Int) ≥ 8 := by omega
    rw [if_neg h8]
    refine Rkf @h8' ?_
    refine Bs ?_
    exact RwAt.ends (C := ⟨_, b, ι, h, w, x0⟩) hid hT hn H hrow (fun _ _ _ => rfl) rfl (frz_tup0 _ _) ⟨rfl, rfl⟩
end Go.Proofs.YtihgnpboabpchaaGreatDoor.PdSt
namespace Go.Proofs.YtihgnpboabpchaaGreatDoor.PdSt
set_option linter.unusedSimpArgs false
set_option linter.unusedVariables false
set_option linter.unnecessarySimpa false
open Go Am
set_option maxRecDepth 100000
structure QAt (h : Heap) (b id ver cap N : Nat) (T : List Cell) (d : Array El) (a e lim : Nat) (g : FuncId) (wb wp : Bool) (st : St) : Prop where
  n : st.n = 0
  row : RwAt h b id ver cap N T d st
  a : st.t 1 = IntV a
  e : st.t 2 = IntV e
  lim : st.t 3 = IntV lim
  g : st.t 4 = cloV g
  wb : st.t 10 = BoolV wb
  wp : st.t 11 = BoolV wp
theorem QAt.cut {h : Heap} {b id ver cap N : Nat} {T : List Cell} {d : Array El} {a e lim : Nat} {g : FuncId} {wb wp : Bool} {st : St} (hid : id < b) (hT : lowCs 0 T = true) (hlow : ∀ id blk, h id = some blk → ∀ c ∈ blk.cells, lowC b c = true) (C : Ctx) (hC : C.b = b)
    (k : QAt h b id ver cap N T d a e lim g wb wp st) : QAt h b id ver cap N T d a e lim g wb wp (st.cut C 0) := by
  obtain ⟨t, hh, n⟩ := st
  obtain ⟨_, ⟨h1, h2, h3, h4⟩, h5, h6, h7, h8, h9, h10⟩ := k
  simp only at h2 h3 h4 h5 h6 h7 h8 h9 h10
  refine ⟨rfl, RwAt.cut hid hT hlow C hC h1 h2 h3 h4, ?_, ?_, ?_, ?_, ?_, ?_⟩
  · show cutV _ (t 1) = _; rw [h5]; rfl
  · show cutV _ (t 2) = _; rw [h6]; rfl
  · show cutV _ (t 3) = _; rw [h7]; rfl
  · show cutV _ (t 4) = _; rw [h8]; rfl
  · show cutV _ (t 10) = _; rw [h9]; rfl
  · show cutV _ (t 11) = _; rw [h10]; rfl
theorem hintN_two (x : Sort.Hint) : hintN x = 2 ↔ x = .decreasing := by cases x <;> simp [hintN]
theorem hintN_one (x : Sort.Hint) : hintN x = 1 ↔ x = .increasing := by cases x <;> simp [hintN]
def pdqC (g : FuncId) (z : El → El → Int) (m : Nat) : Prop := ∀ {h : Heap} {b id ver cap : Nat} {d0 : Array El} {T : List Cell} (_ : PdAt h id ver d0 T) (_ : id < b) (a e lim : Nat), e - a ≤ m → a ≤ e → e ≤ d0.size → lim ≤ 1000000 → Sort.Below (ltZ z) a e d0 →
    ACalls Tryz.prog 117 [winQ id ver cap d0.size, IntV a, IntV e, IntV lim, cloV g] h b 0 (fun r h' => r = .tup [] ∧ h' = upd h id (rowQ ver (Sort.pdq (ltZ z) d0 a e lim true true) T))
theorem pdqsort_ok {g : FuncId} {z : El → El → Int} (cm : CmpQ g z) (hO : Sort.SWO (ltZ z)) : ∀ m, pdqC g z m := by
  intro m
  induction m using Nat.strongRecOn with
  | _ m ih =>
  intro h b id ver cap d0 T k hid a e lim hm hae he hlim hB
  refine ACalls.enter Tryz.func117 rfl (by simp [Tryz.ntmps117]) (fun ι w hn H => ?_)
  have hlow := H.lowCells
  have hz := k.size
  obtain ⟨N, hN⟩ : ∃ N, d0.size = N := ⟨_, rfl⟩
  have hrow := k.row
  have hT := k.low
  rw [hN] at hz he ⊢
  obtain ⟨R, hR⟩ : ∃ R, Sort.pdq (ltZ z) d0 a e lim true true = R := ⟨_, rfl⟩
  rw [hR]
  refine Rk ?_
  refine Rk ?_
  refine AWP.block ?_
  refine AWP.loopM 0 (fun M st => ∃ a e lim wb wp d, M = e - a ∧ e - a ≤ m ∧ a ≤ e ∧ e ≤ N ∧ lim ≤ 1000000 ∧ Sort.Below (ltZ z) a e d ∧ Sort.pdq (ltZ z) d a e lim wb wp = R ∧ QAt h b id ver cap N T d a e lim g wb wp st) (e - a) rfl
    ⟨a, e, lim, true, true, d0, rfl, hm, hae, he, hlim, hB, hR, ⟨rfl, ⟨hN, hrow, fun _ _ _ => rfl, by exact Er⟩, by exact Er, by exact Er, by exact Er, by exact Er, by exact Er, by exact Er⟩⟩ ?_
  clear hR hB hlim he hae hm hrow hN k
  clear a e lim
  rintro M ⟨t, hh, n⟩ ⟨a, e, lim, wb, wp, d, rfl, hm, hae, he, hlim, hB, hR, hn0, ⟨hs, hb, ho, e0⟩, e1, e2, e3, e4, e10, e11⟩ hn1
  simp only at hn0 hb ho e0 e1 e2 e3 e4 e10 e11 hn1
  subst hn0
  have fin : ∀ (t : Nat → AV) (hh : Heap), hh id = some (rowQ ver R T) → (∀ x, x < b → x ≠ id → hh x = h x) → Am.Ends Tryz.prog ⟨Tryz.f117.ntmps, b, ι, h, w, x0⟩ Tryz.f117 0 (fun r h' => r = .tup [] ∧ h' = upd h id (rowQ ver R T)) ⟨t, hh, 0⟩ := by
    intro t hh h2 h3
    exact RwAt.ends (C := ⟨_, b, ι, h, w, x0⟩) hid hT hn H h2 h3 rfl (frz_tup0 _ _) ⟨rfl, rfl⟩
  have kk : ∀ (hh : Heap) (d : Array El), d.size = N → hh id = some (rowQ ver d T) → PdAt hh id ver d T := fun hh d h1 h2 => ⟨h2, hT, by rw [h1]; exact hz⟩
  have w1 := w_sub (a := e) (c := a) hae (by omega)
  refine AWP.block ?_
  refine Rkf (jn3 @e1 @e2 @w1) ?_
  refine AWP.seq ?_
  by_cases h12 : e - a ≤ 12
  · have h12' : ((e - a : Nat) : Int) ≤ 12 := by omega
    have k1 := insertionSort_ok cm (b := b + 0) (cap := cap) (kk hh d hs hb) hid a e hae (by omega)
    rw [hs, ← Sort.pdq_small (limit := lim) (wb := wb) (wp := wp) h12, hR] at k1
    refine Rkf @h12' ?_
    refine Bt ?_
    refine Rgf (jn4 @e0 @e1 @e2 @e4) (fun E K hE hK => ?_)
    refine Us k1 body_159 ?_
    refine hK _ _ _ ?_; clear hE hK K E
    refine AWP.ret ?_
    refine Ev ?_
    exact fin _ _ (by exact Er) (fun x hx hne => by refine Evf @hne ?_; exact ho x hx hne)
  have h12' : ¬ ((e - a : Nat) : Int) ≤ 12 := by omega
  refine Rkf @h12' ?_
  refine Bs ?_
  refine AWP.seq ?_
  by_cases hl0 : lim = 0
  · have hl0' : (lim : Int) = 0 := by omega
    have k1 := heapSort_ok cm (b := b + 0) (cap := cap) (kk hh d hs hb) hid a e hae (by omega)
    rw [hs, ← Sort.pdq_heap (limit := lim) (wb := wb) (wp := wp) h12 hl0, hR] at k1
    refine Rkf (jn2 @e3 @hl0') ?_
    refine Bt ?_
    refine Rgf (jn4 @e0 @e1 @e2 @e4) (fun E K hE hK => ?_)
    refine Us k1 body_160 ?_
    refine hK _ _ _ ?_; clear hE hK K E
    refine AWP.ret ?_
    refine Ev ?_
    exact fin _ _ (by exact Er) (fun x hx hne => by refine Evf @hne ?_; exact ho x hx hne)
  have hl0' : ¬ (lim : Int) = 0 := by omega
  refine Rkf (jn2 @e3 @hl0') ?_
  refine Bs ?_
  have F := Sort.rd_facts (lt := ltZ z) (limit := lim) (wb := wb) (wp := wp) hO Sort.partialInsertionSort_holds Sort.reverseRange_holds (show a < e by omega) (show e ≤ d.size by omega) hB
  have hll := Sort.rd_lim_le (lt := ltZ z) (d := d) (a := a) (b := e) (limit := lim) (wb := wb) (wp := wp)
  have q1f : wb = false → (Sort.rd (ltZ z) d a e lim wb wp).d1 = Sort.breakPatterns d a e ∧ (Sort.rd (ltZ z) d a e lim wb wp).lim = lim - 1 := fun q => by subst q; exact Sort.rd_false
  have q1t : wb = true → (Sort.rd (ltZ z) d a e lim wb wp).d1 = d ∧ (Sort.rd (ltZ z) d a e lim wb wp).lim = lim := fun q => by subst q; exact Sort.rd_true
  have qc := Sort.rd_c (lt := ltZ z) (d := d) (a := a) (b := e) (limit := lim) (wb := wb) (wp := wp)
  have qd := Sort.rd_dec (lt := ltZ z) (d := d) (a := a) (b := e) (limit := lim) (wb := wb) (wp := wp)
  have qn := Sort.rd_not (lt := ltZ z) (d := d) (a := a) (b := e) (limit := lim) (wb := wb) (wp := wp)
  have qy := Sort.rd_pi_yes (lt := ltZ z) (d := d) (a := a) (b := e) (limit := lim) (wb := wb) (wp := wp)
  have qo := Sort.rd_pi_no (lt := ltZ z) (d := d) (a := a) (b := e) (limit := lim) (wb := wb) (wp := wp)
  have rdone := Sort.pdq_done (lt := ltZ z) (d := d) (a := a) (b := e) (limit := lim) (wb := wb) (wp := wp) h12 hl0
  have req := Sort.pdq_eq (lt := ltZ z) (d := d) (a := a) (b := e) (limit := lim) (wb := wb) (wp := wp) h12 hl0
  have rleft := Sort.pdq_left (lt := ltZ z) (d := d) (a := a) (b := e) (limit := lim) (wb := wb) (wp := wp) h12 hl0
  have rright := Sort.pdq_right (lt := ltZ z) (d := d) (a := a) (b := e) (limit := lim) (wb := wb) (wp := wp) h12 hl0
  rw [hR] at rdone req rleft rright
  obtain ⟨D, hD⟩ : ∃ D, Sort.rd (ltZ z) d a e lim wb wp = D := ⟨_, rfl⟩
  rw [hD] at F hll q1f q1t qc qd qn qy qo rdone req rleft rright
  clear hD hR h12' hl0'
  obtain ⟨s1, B1, hc1, s2, B2, hpv, s3, B3⟩ := F
  rw [hs] at s1 s2 s3
  refine AWP.mid (fun st => QAt h b id ver cap N T D.d1 a e D.lim g wb wp st ∧ st.t 12 = IntV (e - a : Nat)) ?_ ?_
  · cases wb with
    | true =>
      obtain ⟨x1, x2⟩ := q1t rfl
      rw [x1, x2]
      refine Rkf @e10 ?_
      refine Bf ?_
      refine AWP.skip ?_
      exact ⟨⟨rfl, ⟨hs, hb, ho, by exact Ecf @e0⟩, by exact Ecf @e1, by exact Ecf @e2, by exact Ecf @e3, by exact Ecf @e4, by exact Ecf @e10, by exact Ecf @e11⟩, by exact Er⟩
    | false =>
      obtain ⟨x1, x2⟩ := q1f rfl
      have k1 := breakPatterns_ok g (b := b + 0) (cap := cap) (kk hh d hs hb) hid a e hae (by omega)
      rw [hs, ← x1] at k1
      have w2 := w_sub1 (a := lim) (by omega) (by omega)
      rw [x2]
      refine Rkf @e10 ?_
      refine Bt ?_
      refine Rgf (jn4 @e0 @e1 @e2 @e4) (fun E K hE hK => ?_)
      refine Us k1 body_161 ?_
      refine hK _ _ _ ?_; clear hE hK K E
      refine Raf (jn2 @e3 @w2) (fun E K hE hK => ?_); refine hK _ _ _ ?_; clear hE hK K E
      exact ⟨⟨rfl, ⟨s1, by exact Er, fun x hx hne => by refine Evf @hne ?_; exact ho x hx hne, by exact Ecf @e0⟩, by exact Ecf @e1, by exact Ecf @e2, by exact Er, by exact Ecf @e4, by exact Ecf @e10, by exact Ecf @e11⟩, by exact Er⟩
  clear hb ho e0 e1 e2 e3 e4 e10 e11 hs q1f q1t hB d
  rintro ⟨t, hh, n⟩ ⟨⟨hn0, ⟨hs, hb, ho, e0⟩, e1, e2, e3, e4, e10, e11⟩, e12⟩
  simp only at hn0 hb ho e0 e1 e2 e3 e4 e10 e11 e12
  subst hn0
  have k1 := choosePivot_ok cm (b := b + 0) (cap := cap) (kk hh D.d1 hs hb) hid a e (by omega) (by omega)
  rw [hs, ← qc] at k1
  refine Rgf (jn4 @e0 @e1 @e2 @e4) (fun E K hE hK => ?_)
  refine Us k1 body_162 ?_
  refine hK _ _ _ ?_; clear hE hK K E
  refine AWP.mid (fun st => QAt h b id ver cap N T D.d2 a e D.lim g wb wp st ∧ st.t 12 = IntV (e - a : Nat) ∧ st.t 13 = IntV D.pivot ∧ st.t 14 = IntV (hintN D.hint)) ?_ ?_
  · by_cases hdec : D.c.2 = .decreasing
    · have hdec' : ((hintN D.c.2 : Nat) : Int) = 2 := by rw [(hintN_two _).2 hdec]; rfl
      obtain ⟨x1, x2, x3⟩ := qd hdec
      have k2 := reverseRange_ok g (b := b + 0) (cap := cap) (kk hh D.d1 hs hb) hid a e (by omega) (by omega)
      rw [hs, ← x1] at k2
      have w2 := w_sub1 (a := e) (by omega) (by omega)
      have w3 := w_sub (a := D.c.1) (c := a) (by omega) (by omega)
      have w4 := w_sub (a := e - 1) (c := D.c.1 - a) (by omega) (by omega)
      refine Rkf @hdec' ?_
      refine Bt ?_
      refine Rgf (jn4 @e0 @e1 @e2 @e4) (fun E K hE hK => ?_)
      refine Us k2 body_163 ?_
      refine hK _ _ _ ?_; clear hE hK K E
      refine Rkf (jn5 @e1 @e2 @w2 @w3 @w4) ?_
      refine Ra (fun E K hE hK => ?_); refine hK _ _ _ ?_; clear hE hK K E
      exact ⟨⟨rfl, ⟨s2, by exact Er, fun x hx hne => by refine Evf @hne ?_; exact ho x hx hne, by exact Ecf @e0⟩, by exact Ecf @e1, by exact Ecf @e2, by exact Ecf @e3, by exact Ecf @e4, by exact Ecf @e10, by exact Ecf @e11⟩, by exact Ecf @e12, by exact Erf @x2, by exact Erf @x3⟩
    · have hdec' : ¬ ((hintN D.c.2 : Nat) : Int) = 2 := fun q => hdec ((hintN_two _).1 (by omega))
      obtain ⟨x1, x2, x3⟩ := qn hdec
      rw [x1, x2, x3]
      refine Rkf @hdec' ?_
      refine Bf ?_
      refine AWP.skip ?_
      exact ⟨⟨rfl, ⟨hs, hb, ho, by exact Ecf @e0⟩, by exact Ecf @e1, by exact Ecf @e2, by exact Ecf @e3, by exact Ecf @e4, by exact Ecf @e10, by exact Ecf @e11⟩, by exact Ecf @e12, by exact Er, by exact Er⟩
  clear hb ho e0 e1 e2 e3 e4 e10 e11 hs e12 k1 qc qd qn
  rintro ⟨t, hh, n⟩ ⟨⟨hn0, ⟨hs, hb, ho, e0⟩, e1, e2, e3, e4, e10, e11⟩, e12, e13, e14⟩
  simp only at hn0 hb ho e0 e1 e2 e3 e4 e10 e11 e12 e13 e14
  subst hn0
  refine AWP.mid (fun st => D.pi.2 = false ∧ QAt h b id ver cap N T D.pi.1 a e D.lim g wb wp st ∧ st.t 12 = IntV (e - a : Nat) ∧ st.t 13 = IntV D.pivot) ?_ ?_
  · have yes : (wb && wp && decide (D.hint = .increasing)) = true → ∀ (t : Nat → AV), t 0 = winQ id ver cap N → t 1 = IntV a → t 2 = IntV e → t 3 = IntV D.lim → t 4 = cloV g → t 10 = BoolV wb → t 11 = BoolV wp → t 12 = IntV (e - a : Nat) → t 13 = IntV D.pivot → t 75 = BoolV true →
        AWP Tryz.prog ⟨Tryz.f117.ntmps, b, ι, h, w, x0⟩ (.skip) (fun _ _ => True) ⟨t, hh, 0⟩ := fun _ _ _ _ _ _ _ _ _ _ _ _ => AWP.skip trivial
    clear yes
    by_cases hh68 : (wb && wp && decide (D.hint = .increasing)) = true
    · have x1 := qy hh68
      simp only [Bool.and_eq_true, decide_eq_true_eq] at hh68
      obtain ⟨⟨rfl, rfl⟩, hinc⟩ := hh68
      have hinc' : ((hintN D.hint : Nat) : Int) = 1 := by rw [(hintN_one _).2 hinc]; rfl
      have k2 := partialIns_ok cm (b := b + 0) (cap := cap) (kk hh D.d2 hs hb) hid a e (by omega) (by omega)
      rw [hs, ← x1] at k2
      refine Rkf (jn4 @e10 @e11 @e14 @hinc') ?_
      refine Bt ?_
      refine Rgf (jn4 @e0 @e1 @e2 @e4) (fun E K hE hK => ?_)
      refine Us k2 body_164 ?_
      refine hK _ _ _ ?_; clear hE hK K E
      cases hp2 : D.pi.2 with
      | true =>
        refine Btf @hp2 ?_
        refine AWP.ret ?_
        refine Ev ?_
        exact fin _ _ (by exact Erf (rdone hp2)) (fun x hx hne => by refine Evf @hne ?_; exact ho x hx hne)
      | false =>
        refine Bff @hp2 ?_
        refine AWP.skip ?_
        exact ⟨rfl, ⟨rfl, ⟨s3, by exact Er, fun x hx hne => by refine Evf @hne ?_; exact ho x hx hne, by exact Ecf @e0⟩, by exact Ecf @e1, by exact Ecf @e2, by exact Ecf @e3, by exact Ecf @e4, by exact Ecf @e10, by exact Ecf @e11⟩, by exact Ecf @e12, by exact Ecf @e13⟩
    · have x1 := qo (by simpa using hh68)
      rw [x1]
      have fin2 : ∀ (t : Nat → AV), t 0 = winQ id ver cap N → t 1 = IntV a → t 2 = IntV e → t 3 = IntV D.lim → t 4 = cloV g → t 10 = BoolV wb → t 11 = BoolV wp → t 12 = IntV (e - a : Nat) → t 13 = IntV D.pivot →
          (D.d2, false).2 = false ∧ QAt h b id ver cap N T (D.d2, false).1 a e D.lim g wb wp ⟨t, hh, 0⟩ ∧ t 12 = IntV (e - a : Nat) ∧ t 13 = IntV D.pivot := fun t a0 a1 a2 a3 a4 a10 a11 a12 a13 => ⟨rfl, ⟨rfl, ⟨hs, hb, ho, a0⟩, a1, a2, a3, a4, a10, a11⟩, a12, a13⟩
      have hinc' : wb = true → wp = true → ¬ ((hintN D.hint : Nat) : Int) = 1 := fun q1 q2 q => hh68 (by rw [q1, q2, (hintN_one D.hint).1 (by omega)]; rfl)
      cases wb with
      | false =>
        refine Rkf (jn3 @e10 @e11 @e14) ?_
        refine Bf ?_
        refine AWP.skip ?_
        exact fin2 _ (by exact Ecf @e0) (by exact Ecf @e1) (by exact Ecf @e2) (by exact Ecf @e3) (by exact Ecf @e4) (by exact Ecf @e10) (by exact Ecf @e11) (by exact Ecf @e12) (by exact Ecf @e13)
      | true =>
        cases wp with
        | false =>
          refine Rkf (jn3 @e10 @e11 @e14) ?_
          refine Bf ?_
          refine AWP.skip ?_
          exact fin2 _ (by exact Ecf @e0) (by exact Ecf @e1) (by exact Ecf @e2) (by exact Ecf @e3) (by exact Ecf @e4) (by exact Ecf @e10) (by exact Ecf @e11) (by exact Ecf @e12) (by exact Ecf @e13)
        | true =>
          have hi2 := hinc' rfl rfl
          refine Rkf (jn4 @e10 @e11 @e14 @hi2) ?_
          refine Bf ?_
          refine AWP.skip ?_
          exact fin2 _ (by exact Ecf @e0) (by exact Ecf @e1) (by exact Ecf @e2) (by exact Ecf @e3) (by exact Ecf @e4) (by exact Ecf @e10) (by exact Ecf @e11) (by exact Ecf @e12) (by exact Ecf @e13)
  clear hb ho e0 e1 e2 e3 e4 e10 e11 hs e12 e13 e14 qy qo rdone
  rintro ⟨t, hh, n⟩ ⟨hp2, ⟨hn0, ⟨hs, hb, ho, e0⟩, e1, e2, e3, e4, e10, e11⟩, e12, e13⟩
  simp only at hn0 hb ho e0 e1 e2 e3 e4 e10 e11 e12 e13
  subst hn0
  replace req := req hp2
  replace rleft := rleft hp2
  replace rright := rright hp2
  refine AWP.mid (fun st => (decide (a > 0) && !ltZ z D.pi.1[a - 1]! D.pi.1[D.pivot]!) = false ∧ QAt h b id ver cap N T D.pi.1 a e D.lim g wb wp st ∧ st.t 12 = IntV (e - a : Nat) ∧ st.t 13 = IntV D.pivot) ?_ ?_
  · by_cases ha0 : a > 0
    · have ha0' : (0 : Int) < (a : Int) := by omega
      have w2 := w_sub1 (a := a) (by omega) (by omega)
      rw [← hs] at e0
      obtain ⟨d, hd⟩ : ∃ d, d = D.pi.1 := ⟨_, rfl⟩
      obtain ⟨pv, hpvd⟩ : ∃ pv, pv = D.pivot := ⟨_, rfl⟩
      rw [← hd] at hb hs e0 req B3
      rw [← hpvd] at e13 hpv req
      have la : (a - 1) < d.size := by omega
      have lb : pv < d.size := by omega
      have la' : (((a - 1) : Nat) : Int) < d.size := by omega
      have lb' : ((pv : Nat) : Int) < d.size := by omega
      have hpa := celQ_get d T (a - 1) la
      have hpb := celQ_get d T pv lb
      have hb' : hh id = some ⟨ver, celQ d T⟩ := hb
      have hlL := celQ_len d T
      obtain ⟨vx, hvx⟩ : ∃ v, d[(a - 1)]! = v := ⟨_, rfl⟩
      obtain ⟨vy, hvy⟩ : ∃ v, d[pv]! = v := ⟨_, rfl⟩
      rw [hvx] at hpa
      rw [hvy] at hpb
      generalize celQ d T = L1 at hpa hpb hb' hlL
      refine AWP.seqRegDG [] [] [] mixed (drawF_ok (by kernel_rfl)) (by kernel_rfl) (fun K hK => ?_); simp -implicitDefEqProofs only [go_sem, ↓reduceIte, Nat.reduceEqDiff, Nat.reduceAdd, Nat.reduceLT, Nat.reduceLeDiff, reduceCtorEq, Int.toNat_natCast, e0, e1, e4, e13, ha0', w2, hb', hpa, hpb, la', lb']
      repeat (first | (refine Gdf 83 (jn5 @e0 @e1 @e4 @e13 (jn7 @ha0' @w2 @hb' @hpa @hpb @la' @lb')) ?_) | (refine ⟨by omega, ?_⟩))
      refine Ud (cm.calls vx vy _ _) cm.body ?_
      by_cases hz1 : z vx vy < 0
      · repeat (first | (refine Gdf 83 @hz1 ?_) | (refine ⟨by omega, ?_⟩))
        refine hK _ _ _ ?_; clear hK K
        refine Bf ?_
        refine AWP.skip ?_
        subst hd
        subst hpvd
        exact ⟨by rw [hvx, hvy]; simp [hz1], ⟨rfl, ⟨hs, hb, ho, by exact Ecf (jn2 @e0 @hs)⟩, by exact Ecf @e1, by exact Ecf @e2, by exact Ecf @e3, by exact Ecf @e4, by exact Ecf @e10, by exact Ecf @e11⟩, by exact Ecf @e12, by exact Ecf @e13⟩
      · repeat (first | (refine Gdf 83 @hz1 ?_) | (refine ⟨by omega, ?_⟩))
        have hcond : (decide (a > 0) && !ltZ z d[a - 1]! d[pv]!) = true := by rw [hvx, hvy]; simp [hz1, ha0]
        have hnl : ltZ z d[a - 1]! d[pv]! = false := by rw [hvx, hvy]; simp [hz1]
        obtain ⟨mid, d4, hx⟩ : ∃ mid d4, Sort.partitionEqual (ltZ z) d a e pv = (mid, d4) := ⟨_, _, rfl⟩
        obtain ⟨r1, r2, r3, r4, _⟩ := Sort.round_eq hO (Sort.partitionEqual_holds (ltZ z)) ha0 hpv.1 hpv.2 (show e ≤ d.size by omega) B3 hnl hx
        have k2 := partitionEqual_ok cm (b := b + 0) (cap := cap) (kk hh d hs hb) hid a e pv hpv.1 hpv.2 (by omega)
        replace req := req hcond
        rw [hx] at k2 req
        replace req := req ⟨r1, r2⟩
        rw [hs] at k2
        rw [hs] at e0
        refine hK _ _ _ ?_; clear hK K
        refine Bt ?_
        clear hpa hpb hlL hb' hvx hvy
        refine Rgf (jn5 @e0 @e1 @e2 @e4 @e13) (fun E K hE hK => ?_)
        refine Us k2 body_165 ?_
        refine hK _ _ _ ?_; clear hE hK K E
        refine Rk ?_
        refine AWP.exit ?_
        refine Ev ?_
        exact ⟨e - mid, by omega, mid, e, D.lim, wb, wp, d4, rfl, by omega, r2, he, by omega, r4, req.symm, QAt.cut hid hT hlow _ rfl ⟨rfl, ⟨by rw [r3, hs], by exact Er, fun x hx hne => by refine Evf @hne ?_; exact ho x hx hne, by exact Ecf @e0⟩, by exact Er, by exact Ecf @e2, by exact Ecf @e3, by exact Ecf @e4, by exact Ecf @e10, by exact Ecf @e11⟩⟩
    · have ha0' : ¬ (0 : Int) < (a : Int) := by omega
      refine AWP.seqRegDG [] [] [] mixed (drawF_ok (by kernel_rfl)) (by kernel_rfl) (fun K hK => ?_); simp -implicitDefEqProofs only [go_sem, ↓reduceIte, Nat.reduceEqDiff, Nat.reduceAdd, Nat.reduceLT, Nat.reduceLeDiff, reduceCtorEq, Int.toNat_natCast, e0, e1, e4, e13, ha0']
      repeat (first | (refine Gdf 83 @ha0' ?_) | (refine ⟨by omega, ?_⟩))
      refine hK _ _ _ ?_; clear hK K
      refine Bf ?_
      refine AWP.skip ?_
      exact ⟨by simp [ha0], ⟨rfl, ⟨hs, hb, ho, by exact Ecf @e0⟩, by exact Ecf @e1, by exact Ecf @e2, by exact Ecf @e3, by exact Ecf @e4, by exact Ecf @e10, by exact Ecf @e11⟩, by exact Ecf @e12, by exact Ecf @e13⟩
  clear hb ho e0 e1 e2 e3 e4 e10 e11 hs e12 e13 req
  rintro ⟨t, hh, n⟩ ⟨hcond, ⟨hn0, ⟨hs, hb, ho, e0⟩, e1, e2, e3, e4, e10, e11⟩, e12, e13⟩
  simp only at hn0 hb ho e0 e1 e2 e3 e4 e10 e11 e12 e13
  subst hn0
  replace rleft := rleft hcond
  replace rright := rright hcond
  obtain ⟨mid, ap, d4, hx⟩ : ∃ mid ap d4, Sort.partition (ltZ z) D.pi.1 a e D.pivot = (mid, ap, d4) := ⟨_, _, _, rfl⟩
  obtain ⟨r1, r2, r3, r4, r5, r6, r7⟩ := Sort.round_part hO (Sort.partition_holds (ltZ z)) hpv.1 hpv.2 (show e ≤ D.pi.1.size by omega) B3 hx
  have k2 := partition_ok cm (b := b + 0) (cap := cap) (kk hh D.pi.1 hs hb) hid a e D.pivot hpv.1 hpv.2 (by omega)
  rw [hx] at k2 rleft rright
  rw [hs] at k2 r3
  replace rleft := rleft ⟨r1, r2⟩
  replace rright := rright ⟨r1, r2⟩
  have w2 := w_sub (a := mid) (c := a) r1 (by omega)
  have w3 := w_sub (a := e) (c := mid) (by omega) (by omega)
  have w4 := w_quo8 (a := e - a) (by omega)
  have w5 := w_add1 (a := mid) (by omega)
  have h80 : ¬ (8 : Int) = 0 := by decide
  cases ap
  all_goals
    refine Rgf (jn5 @e0 @e1 @e2 @e4 @e13) (fun E K hE hK => ?_)
    refine Us k2 body_166 ?_
    refine hK _ _ _ ?_; clear hE hK K E
    refine Rk ?_
    refine Rkf (jn4 @e1 @e2 @w2 @w3) ?_
    refine Rkf (jn3 @e12 @w4 @h80) ?_
    by_cases h4 : mid - a < e - mid
    · have h4' : ((mid - a : Nat) : Int) < ((e - mid : Nat) : Int) := by omega
      replace rleft := rleft h4
      have hih := ih (mid - a) (by omega) (b := b + 0) (cap := cap) (kk (upd hh id (rowQ ver d4 T)) d4 r3 (upd_same _ _ _)) hid a mid D.lim (Nat.le_refl _) r1 (by omega) (by omega) r4
      obtain ⟨pL, sL⟩ := Sort.pdq_sorts (ltZ z) hO d4 a mid D.lim true true r1 (by omega) r4
      obtain ⟨x1, x2⟩ := r6 _ pL sL
      have hsz : (Sort.pdq (ltZ z) d4 a mid D.lim true true).size = N := by rw [pL.1, r3]
      rw [r3] at hih
      clear pL sL r6 r7 rright x2
      obtain ⟨dL, hdL⟩ : ∃ dL, Sort.pdq (ltZ z) d4 a mid D.lim true true = dL := ⟨_, rfl⟩
      rw [hdL] at hih rleft x1 hsz
      refine Rkf @h4' ?_
      refine Bt ?_
      have hq : ∀ v : Bool, decide (mid - a ≥ (e - a) / 8) = v → (decide (((mid - a : Nat) : Int) ≥ (((e - a) / 8 : Nat) : Int)) = v) := fun v q => by rw [← q]; exact decide_eq_decide.2 ⟨fun q => by omega, fun q => by omega⟩
      obtain ⟨v8, hv8⟩ : ∃ v, decide (mid - a ≥ (e - a) / 8) = v := ⟨_, rfl⟩
      have hv8' := hq v8 hv8
      rw [hv8] at rleft
      clear hq hv8
      cases v8
      all_goals
        refine Rkf @hv8' ?_
        refine Rgf (jn4 @e0 @e1 @e3 @e4) (fun E K hE hK => ?_)
        refine Us hih body_117 ?_
        refine hK _ _ _ ?_; clear hE hK K E
        refine Raf @w5 (fun E K hE hK => ?_); refine hK _ _ _ ?_; clear hE hK K E
        exact ⟨e - (mid + 1), by omega, mid + 1, e, D.lim, _, _, dL, rfl, by omega, by omega, he, by omega, x1, rleft.symm, QAt.cut hid hT hlow _ rfl ⟨rfl, ⟨hsz, by exact Er, fun x hx hne => by refine Evf @hne ?_; exact ho x hx hne, by exact Ecf @e0⟩, by exact Er, by exact Ecf @e2, by exact Ecf @e3, by exact Ecf @e4, by exact Erf @hv8', by exact Er⟩⟩
    · have h4' : ¬ ((mid - a : Nat) : Int) < ((e - mid : Nat) : Int) := by omega
      replace rright := rright h4
      have hih := ih (e - (mid + 1)) (by omega) (b := b + 0) (cap := cap) (kk (upd hh id (rowQ ver d4 T)) d4 r3 (upd_same _ _ _)) hid (mid + 1) e D.lim (Nat.le_refl _) (by omega) (by omega) (by omega) r5
      obtain ⟨pL, sL⟩ := Sort.pdq_sorts (ltZ z) hO d4 (mid + 1) e D.lim true true (by omega) (by omega) r5
      obtain ⟨x1, x2⟩ := r7 _ pL sL
      have hsz : (Sort.pdq (ltZ z) d4 (mid + 1) e D.lim true true).size = N := by rw [pL.1, r3]
      rw [r3] at hih
      clear pL sL r6 r7 rleft x2
      obtain ⟨dL, hdL⟩ : ∃ dL, Sort.pdq (ltZ z) d4 (mid + 1) e D.lim true true = dL := ⟨_, rfl⟩
      rw [hdL] at hih rright x1 hsz
      refine Rkf @h4' ?_
      refine Bf ?_
      have hq : ∀ v : Bool, decide (e - mid ≥ (e - a) / 8) = v → (decide (((e - mid : Nat) : Int) ≥ (((e - a) / 8 : Nat) : Int)) = v) := fun v q => by rw [← q]; exact decide_eq_decide.2 ⟨fun q => by omega, fun q => by omega⟩
      obtain ⟨v8, hv8⟩ : ∃ v, decide (e - mid ≥ (e - a) / 8) = v := ⟨_, rfl⟩
      have hv8' := hq v8 hv8
      rw [hv8] at rright
      clear hq hv8
      cases v8
      all_goals
        refine Rkf @hv8' ?_
        refine Rgf (jn5 @e0 @e2 @e3 @e4 @w5) (fun E K hE hK => ?_)
        refine Us hih body_117 ?_
        refine hK _ _ _ ?_; clear hE hK K E
        refine Ra (fun E K hE hK => ?_); refine hK _ _ _ ?_; clear hE hK K E
        exact ⟨mid - a, by omega, a, mid, D.lim, _, _, dL, rfl, by omega, r1, by omega, by omega, x1, rright.symm, QAt.cut hid hT hlow _ rfl ⟨rfl, ⟨hsz, by exact Er, fun x hx hne => by refine Evf @hne ?_; exact ho x hx hne, by exact Ecf @e0⟩, by exact Ecf @e1, by exact Er, by exact Ecf @e3, by exact Ecf @e4, by exact Erf @hv8', by exact Er⟩⟩
end Go.Proofs.YtihgnpboabpchaaGreatDoor.PdSt
namespace Go.Proofs.YtihgnpboabpchaaGreatDoor.PdSt
set_option linter.unusedSimpArgs false
set_option linter.unusedVariables false
set_option linter.unnecessarySimpa false
open Go Am
set_option maxRecDepth 100000
def srtQ (z : El → El → Int) (d : Array El) : Array El := Sort.pdq (ltZ z) d 0 d.size (Sort.bitsLen d.size) true true
theorem srtQ_perm {z : El → El → Int} (hO : Sort.SWO (ltZ z)) (d : Array El) : (srtQ z d).toList.Perm d.toList := by
  obtain ⟨h1, _⟩ := Sort.pdq_sorts (ltZ z) hO d 0 d.size (Sort.bitsLen d.size) true true (Nat.zero_le _) (Nat.le_refl _) (Or.inl rfl)
  have h2 := h1.2.2
  have e1 : d.extract 0 d.size = d := by simp
  have e2 : (srtQ z d).extract 0 d.size = srtQ z d := by
    have : (srtQ z d).size = d.size := h1.1
    rw [← this]; simp
  rw [e1] at h2
  unfold srtQ at e2 ⊢
  rwa [e2] at h2
theorem srtQ_size {z : El → El → Int} (hO : Sort.SWO (ltZ z)) (d : Array El) : (srtQ z d).size = d.size := by
  have := (srtQ_perm hO d).length_eq
  simpa using this
theorem srtQ_sorted {z : El → El → Int} (hO : Sort.SWO (ltZ z)) (d : Array El) : (srtQ z d).toList.Pairwise (fun x y => ¬ z y x < 0) := by
  obtain ⟨h1, h2⟩ := Sort.pdq_sorts (ltZ z) hO d 0 d.size (Sort.bitsLen d.size) true true (Nat.zero_le _) (Nat.le_refl _) (Or.inl rfl)
  have hs := srtQ_size hO d
  rw [List.pairwise_iff_getElem]
  intro i j hi hj hij
  rw [Array.length_toList] at hi hj
  have := h2 i j (Nat.zero_le _) hij (by rw [← hs]; exact hj)
  have hi' : i < (Sort.pdq (ltZ z) d 0 d.size (Sort.bitsLen d.size) true true).size := hi
  have hj' : j < (Sort.pdq (ltZ z) d 0 d.size (Sort.bitsLen d.size) true true).size := hj
  rw [getElem!_pos _ i hi', getElem!_pos _ j hj'] at this
  simp only [decide_eq_false_iff_not] at this
  simpa [srtQ] using this
theorem sortFunc_ok {g : FuncId} {z : El → El → Int} (cm : CmpQ g z) (hO : Sort.SWO (ltZ z)) {h : Heap} {b id ver cap : Nat} {d : Array El} {T : List Cell} (k : PdAt h id ver d T) (hid : id < b) :
    ACalls Tryz.prog 64 [winQ id ver cap d.size, cloV g] h b 0 (fun r h' => r = .tup [] ∧ h' = upd h id (rowQ ver (srtQ z d) T)) := by
  refine ACalls.enter Tryz.func64 rfl (by simp [Tryz.ntmps64]) (fun ι w hn H => ?_)
  have hz := k.size
  have hrow := k.row
  have hu : IntKind.u64.wrap (d.size : Int) = (d.size : Int) := by rw [w_u64, Nat.mod_eq_of_lt (by omega)]
  have hk : Sort.bitsLen d.size ≤ 62 := (Sort.bitsLen_le_iff d.size 62).2 (by omega)
  have k1 := bitsLen_ok d.size (by omega) h b
  have k2 := pdqsort_ok cm hO d.size (b := b + 0) (cap := cap) k hid 0 d.size (Sort.bitsLen d.size) (by omega) (by omega) (by omega) (by omega) (Or.inl rfl)
  rw [show ((0 : Nat) : Int) = 0 from rfl] at k2
  have hT := k.low
  refine Rkf @hrow ?_
  refine Raf @hu (fun E K hE hK => ?_)
  refine Us k1 body_118 ?_
  refine Us k2 body_117 ?_
  refine hK _ _ _ ?_; clear hE hK K E
  exact RwAt.ends (C := ⟨_, b, ι, h, w, x0⟩) (d := srtQ z d) hid hT hn H (by exact Er) (fun x hx hne => by exact Ecf @hne) rfl (frz_tup0 _ _) ⟨rfl, rfl⟩
end Go.Proofs.YtihgnpboabpchaaGreatDoor.PdSt
namespace Go.Proofs.YtihgnpboabpchaaGreatDoor
set_option linter.unusedSimpArgs false
set_option linter.unusedVariables false
set_option linter.unnecessarySimpa false
open Go Am
set_option maxRecDepth 100000
abbrev zS (x y : PdSt.El) : Int := cmpF x.1 y.1
theorem cmpQ_stage : PdSt.CmpQ 65 zS := ⟨body_65, fun x y h b => cmpG_ok x.1 y.1 x.2 y.2 h b⟩
theorem swo_stage : Sort.SWO (PdSt.ltZ zS) where
  irrefl x := by have := cmpF_eq (a := x.1) (b := x.1); simp [PdSt.ltZ, zS, this.2 rfl]
  trans x y w h1 h2 := by
    simp only [PdSt.ltZ, zS, decide_eq_true_eq] at h1 h2 ⊢
    exact cmpF_tr h1 h2
  ntrans x y w h1 h2 := by
    simp only [PdSt.ltZ, zS, decide_eq_false_iff_not] at h1 h2 ⊢
    intro h3
    rcases Int.lt_trichotomy (cmpF x.1 y.1) 0 with q | q | q
    · exact h1 q
    · rw [cmpF_eq.1 q] at h3; exact h2 h3
    · have q' : cmpF y.1 x.1 < 0 := by rw [cmpF_anti]; omega
      exact h2 (cmpF_tr q' h3)
theorem cpt_ris (d : Array PdSt.El) (hs : d.toList.Pairwise (fun x y => ¬ zS y x < 0)) : ∀ m, m ≤ d.size →
    Ris nmQ ((PdSt.cpt d m).map (·.1)) ∧ (∀ x, x ∈ PdSt.cpt d m ↔ x ∈ d.toList.take m) ∧ (∀ x ∈ PdSt.cpt d m, 0 < m → ¬ zS d[m - 1]! x < 0)
  | 0, _ => ⟨by simp [PdSt.cpt, Ris.nil], by simp [PdSt.cpt], by simp [PdSt.cpt]⟩
  | m + 1, hm => by
    obtain ⟨h1, h2, h3⟩ := cpt_ris d hs m (by omega)
    have hget : ∀ i (hi : i < d.size), d.toList[i]'(by simpa using hi) = d[i]! := fun i hi => by rw [Array.getElem_toList, getElem!_pos d i hi]
    have hle : ∀ i j, i < j → (hj : j < d.size) → ¬ zS d[j]! d[i]! < 0 := fun i j hij hj => by
      have := List.pairwise_iff_getElem.1 hs i j (by simp; omega) (by simpa using hj) hij
      rwa [hget i (by omega), hget j hj] at this
    rw [PdSt.take_snoc d (by omega)]
    unfold PdSt.cpt
    split
    · rename_i hq
      refine ⟨h1, fun x => ?_, fun x hx _ => ?_⟩
      · rw [h2 x, List.mem_append, List.mem_singleton]
        refine ⟨.inl, fun q => q.elim (fun z => z) (fun z => ?_)⟩
        rw [z, hq.2]
        have : d.toList[m - 1]? = some d[m - 1]! := PdSt.toList_get d (by omega)
        exact List.mem_of_getElem? (i := m - 1) (by rw [List.getElem?_take, if_pos (by omega), this])
      · have := h3 x hx hq.1
        rw [Nat.add_sub_cancel, hq.2]; exact this
    · rename_i hq
      have hlow : ∀ x ∈ PdSt.cpt d m, zS x d[m]! < 0 := by
        intro x hx
        have hm0 : 0 < m := by
          rcases Nat.eq_zero_or_pos m with e | e
          · subst e; simp [PdSt.cpt] at hx
          · exact e
        have a1 := h3 x hx hm0
        have a2 := hle (m - 1) m (by omega) (by omega)
        have a3 : d[m]! ≠ d[m - 1]! := fun e => hq ⟨hm0, e⟩
        have b1 : zS d[m - 1]! d[m]! < 0 := by
          rcases Int.lt_trichotomy (zS d[m - 1]! d[m]!) 0 with q | q | q
          · exact q
          · exact absurd (Subtype.ext (cmpF_eq.1 q)).symm a3
          · exact absurd (by show cmpF d[m]!.1 d[m - 1]!.1 < 0; rw [cmpF_anti]; have q' : 0 < cmpF d[m - 1]!.1 d[m]!.1 := q; omega) a2
        rcases Int.lt_trichotomy (zS x d[m - 1]!) 0 with q | q | q
        · exact cmpF_tr q b1
        · rw [show zS x d[m]! = cmpF x.1 d[m]!.1 from rfl, cmpF_eq.1 q]; exact b1
        · exact absurd (by show cmpF d[m - 1]!.1 x.1 < 0; rw [cmpF_anti]; have q' : 0 < cmpF x.1 d[m - 1]!.1 := q; omega) a1
      refine ⟨?_, fun x => by rw [List.mem_append, List.mem_append, h2 x], fun x hx _ => ?_⟩
      · rw [List.map_append]
        refine List.pairwise_append.2 ⟨h1, List.pairwise_singleton _ _, fun x hx y hy => ?_⟩
        obtain ⟨x', hx', rfl⟩ := List.mem_map.1 hx
        simp at hy
        subst hy
        exact hlow x' hx'
      · rw [Nat.add_sub_cancel]
        rcases List.mem_append.1 hx with hx | hx
        · intro q
          have := cmpF_tr (hlow x hx) q
          rw [cmpF_eq.2 rfl] at this
          omega
        · rw [List.mem_singleton.1 hx]
          intro q
          rw [show zS d[m]! d[m]! = 0 from cmpF_eq.2 rfl] at q
          omega
def srtS (d : Array PdSt.El) : List PdSt.El := PdSt.cpt (PdSt.srtQ zS d) d.size
theorem srtS_ok (d : Array PdSt.El) : Ris nmQ ((srtS d).map (·.1)) ∧ ∀ x, x ∈ srtS d ↔ x ∈ d.toList := by
  have hsz := PdSt.srtQ_size swo_stage d
  obtain ⟨h1, h2, _⟩ := cpt_ris (PdSt.srtQ zS d) (PdSt.srtQ_sorted swo_stage d) d.size (by omega)
  refine ⟨h1, fun x => ?_⟩
  rw [show srtS d = PdSt.cpt (PdSt.srtQ zS d) d.size from rfl, h2 x, List.take_of_length_le (by rw [Array.length_toList]; omega)]
  exact (PdSt.srtQ_perm swo_stage d).mem_iff
end Go.Proofs.YtihgnpboabpchaaGreatDoor
namespace Go.Proofs.YtihgnpboabpchaaGreatDoor
set_option linter.unusedSimpArgs false
set_option linter.unusedVariables false
set_option linter.unnecessarySimpa false
open Go Am
def delS (k : Nat → Int) (s : Sg) (p : S) : Int × Sg × Int :=
  if startS k s [p] ≠ 0 then (0, zSg, startS k s [p])
  else if (readS s 0 p).2 ≠ 0 then (0, zSg, (readS s 0 p).2)
  else if (whatS (readS s 0 p).1 p).gone = true then (4, (readS s 0 p).1, 0)
  else (0, endS (editS (readS s 0 p).1 0 (goneE p)))
def lstE (k : Nat → Int) (s : Sg) (dir : S) : Int := if checkS k s = 0 ∧ dir ≠ [] then chkN dir else checkS k s
def allN (s : Sg) : List S := s.t.map Fl.name ++ s.ed.map Ed.name
def isIn (s : Sg) (dir p : S) : Bool := (withinN dir p).1 && !(whatS s p).gone
def lstS (k : Nat → Int) (s : Sg) (dir : S) : Sg × Int :=
  if lstE k s dir ≠ 0 then (zSg, lstE k s dir) else if (putE s.dirs 0 dir).2 ≠ 0 then (zSg, (putE s.dirs 0 dir).2) else ({ s with dirs := (putE s.dirs 0 dir).1 }, 0)
theorem lstE_zero {k : Nat → Int} {s : Sg} {dir : S} : lstE k s dir = 0 ↔ StOK k s ∧ okG dir := by
  unfold lstE okG
  constructor
  · intro h
    by_cases c : checkS k s = 0 ∧ dir ≠ []
    · rw [if_pos c] at h; exact ⟨check_iff.1 c.1, .inr h⟩
    · rw [if_neg c] at h
      refine ⟨check_iff.1 h, .inl ?_⟩
      exact Decidable.byContradiction fun q => c ⟨h, q⟩
  · rintro ⟨h1, h2⟩
    have h1' := check_iff.2 h1
    by_cases c : checkS k s = 0 ∧ dir ≠ []
    · rw [if_pos c]; exact h2.resolve_left c.2
    · rw [if_neg c]; exact h1'
theorem dirs_ris {l : List S} (h : risesX (dirsX l) 1024 = true) : Ris nmQ l ∧ ∀ x ∈ l, okG x := by
  unfold risesX at h
  rw [Bool.and_eq_true] at h
  match l, h with
  | [], _ => exact ⟨Ris.nil, fun x hx => by simp at hx⟩
  | [] :: ds, h =>
    have h1 : riseF none ds = true := h.1
    refine ⟨Ris.cons.2 ⟨fun y hy => ?_, (rise_ris h1).1⟩, fun x hx => ?_⟩
    · have hy2 := chk_ne (riseF_mem h1 y hy)
      show cmpF [] y < 0
      unfold cmpF
      rw [if_neg (fun e => hy2 e.symm), if_pos rfl]
      decide
    · rcases List.mem_cons.1 hx with rfl | hx
      · exact .inl rfl
      · exact .inr (riseF_mem h1 x hx)
  | (c :: cs) :: ds, h =>
    have h1 : riseF none ((c :: cs) :: ds) = true := h.1
    exact ⟨(rise_ris h1).1, fun x hx => .inr (riseF_mem h1 x hx)⟩
theorem StOK.drs {k : Nat → Int} {s : Sg} (o : StOK k s) : Ris nmQ s.dirs ∧ ∀ x ∈ s.dirs, okG x := dirs_ris o.dris
theorem putE_zero {l : List S} {p : S} (h : (putE l 0 p).2 = 0) (hr : Ris nmQ l) : (putE l 0 p).1 = putQ l p := by
  unfold putE at h ⊢
  split
  · rename_i c
    rcases c with c | c
    · exact (putQ_has hr c).symm
    · exact absurd rfl c
  · rename_i c
    rw [if_neg c] at h
    split
    · rename_i c2; rw [if_pos c2] at h; cases h
    · rfl
theorem putQ_in {l : List S} {p : S} (hr : Ris nmQ l) : p ∈ putQ l p := set_mem.2 (.inl rfl)
theorem lst_inv {k : Nat → Int} {s m : Sg} {dir : S} (h : lstS k s dir = (m, 0)) : StOK k s ∧ okG dir ∧ m = { s with dirs := putQ s.dirs dir } := by
  unfold lstS at h
  by_cases c : lstE k s dir = 0
  · obtain ⟨o, hd⟩ := lstE_zero.1 c
    rw [if_neg (by rw [c]; simp)] at h
    by_cases c2 : (putE s.dirs 0 dir).2 = 0
    · rw [if_neg (by rw [c2]; simp), putE_zero c2 o.drs.1] at h
      exact ⟨o, hd, by injection h with h _; exact h.symm⟩
    · rw [if_pos c2] at h
      injection h with _ h
      exact absurd h c2
  · rw [if_pos c] at h
    injection h with _ h
    exact absurd h c
theorem del_inv {k : Nat → Int} {s m : Sg} {p : S} {how : Int} (h : delS k s p = (how, m, 0)) : StOK k s ∧ chkN p = 0 ∧ (readS s 0 p).2 = 0 ∧ m.names = (readS s 0 p).1.names := by
  unfold delS at h
  by_cases c : startS k s [p] = 0
  · obtain ⟨o, hp⟩ := start_one.1 c
    rw [if_neg (by rw [c]; simp)] at h
    by_cases c2 : (readS s 0 p).2 = 0
    · rw [if_neg (by rw [c2]; simp)] at h
      refine ⟨o, hp, c2, ?_⟩
      split at h
      · injection h with _ h; injection h with h _; rw [← h]
      · injection h with _ h
        unfold endS at h
        split at h
        · rename_i c3; injection h with _ h; exact absurd h c3
        · injection h with h _
          rw [← h, edit_same.2.1]
    · rw [if_pos c2] at h
      injection h with _ h
      injection h with _ h
      exact absurd h c2
  · rw [if_pos c] at h
    injection h with _ h
    injection h with _ h
    exact absurd h c
end Go.Proofs.YtihgnpboabpchaaGreatDoor
namespace Go.Proofs.YtihgnpboabpchaaGreatDoor
set_option linter.unusedSimpArgs false
set_option linter.unusedVariables false
set_option linter.unnecessarySimpa false
open Go Am
set_option maxRecDepth 100000
def delM (p : S) (v : Int) (h : Heap) (b : Nat) (st : St) : Prop :=
  st.t 1 = StrV p ∧ st.t 2 = .one (.ptr b 0 0) ∧ st.t 4 = IntV v ∧ st.t 5 = .one (.ptr (b + 1) 0 0) ∧ st.t 7 = .one (.ptr (b + 3) 0 0) ∧ (∃ v, st.h b = some ⟨0, (encSg v).map .p⟩) ∧
    st.h (b + 1) = some ⟨0, [.p (.v (.int .u64 0)), .p (.v (.slice none 0 0)), .p (.v (.slice none 0 0)), .p (.v (.slice none 0 0)), .p (.v (.slice none 0 0))]⟩ ∧ ∀ id, id < b → st.h id = h id
theorem delM.of {p : S} {v v' : Int} {h : Heap} {b : Nat} {t t' : Nat → AV} {hh hh' : Heap} {n n' : Nat} (k : delM p v h b ⟨t, hh, n⟩) (e1 : t' 1 = t 1) (e2 : t' 2 = t 2) (e4 : t' 4 = IntV v') (e5 : t' 5 = t 5) (e7 : t' 7 = t 7) (eh : ∀ id, id < b + 3 → hh' id = hh id) : delM p v' h b ⟨t', hh', n'⟩ := by
  obtain ⟨k1, k2, k4, k5, k7, ⟨v, hb⟩, h2, ho⟩ := k
  simp only at k1 k2 k4 k5 k7 hb h2 ho
  exact ⟨e1.trans k1, e2.trans k2, e4, e5.trans k5, e7.trans k7, ⟨v, (eh b (by omega)).trans hb⟩, (eh (b + 1) (by omega)).trans h2, fun id hid => (eh id (by omega)).trans (ho id hid)⟩
theorem sdel_ok (s : Sg) (p : S) (z : SzS s) (h : Heap) (b : Nat) : ACalls Tryz.prog 33 [SgV s, StrV p] h b 0 (fun r h' => r = .tup [IntV (delS keyR s p).1, SgV (delS keyR s p).2.1, IntV (delS keyR s p).2.2] ∧ h' = h) := by
  refine ACalls.enter Tryz.func33 rfl (by simp [Tryz.ntmps33]) (fun ι w hn H => ?_)
  have hlow := H.lowCells
  refine Rk ?_
  refine Am.AWP.mid (fun st => delM p 0 h b st ∧ ((startS keyR s [p] ≠ 0 ∧ st.n = 4 ∧ st.h (b + 3) = some ⟨0, seC (startS keyR s [p])⟩) ∨ (startS keyR s [p] = 0 ∧ st.n = 7 ∧ SW st.h (b + 3) (b + 4) (b + 5) (b + 6) s 0))) ?_ ?_
  · by_cases hs : startS keyR s [p] = 0
    · refine Ra (fun E K hE hK => ?_)
      refine CallR.use (sstartL_ok z (by simp) hs (b + 3) (show b + 2 < b + 3 by omega) (upd_same _ _ _)) body_57 ?_
      rintro _ h2 ⟨rfl, k1, k2⟩
      refine hK _ _ _ ?_; clear hE hK K E
      refine ⟨⟨by exact Er, by exact Er, by exact Er, by exact Er, by exact Er, ⟨s, (k2 b (by omega) (by omega)).trans (by exact Er)⟩, (k2 (b + 1) (by omega) (by omega)).trans (by exact Er), fun id hid => ?_⟩, .inr ⟨hs, rfl, k1⟩⟩
      have hid' : id < b := hid
      have q0 : ¬ id = b := by omega
      have q1 : ¬ id = b + 1 := by omega
      have q2 : ¬ id = b + 2 := by omega
      exact (k2 id (show id < b + 3 by omega) (by omega)).trans (by exact Erf (jn3 @q0 @q1 @q2))
    · refine Ra (fun E K hE hK => ?_)
      refine CallR.use (sstartBadL_ok z (by simp) hs (b + 3) (show b + 2 < b + 3 by omega) (upd_same _ _ _)) body_57 ?_
      rintro _ h2 ⟨rfl, k1, k2⟩
      refine hK _ _ _ ?_; clear hE hK K E
      refine ⟨⟨by exact Er, by exact Er, by exact Er, by exact Er, by exact Er, ⟨s, (k2 b (by omega) (by omega)).trans (by exact Er)⟩, (k2 (b + 1) (by omega) (by omega)).trans (by exact Er), fun id hid => ?_⟩, .inl ⟨hs, rfl, k1⟩⟩
      have hid' : id < b := hid
      have q0 : ¬ id = b := by omega
      have q1 : ¬ id = b + 1 := by omega
      have q2 : ¬ id = b + 2 := by omega
      exact (k2 id (show id < b + 3 by omega) (by omega)).trans (by exact Erf (jn3 @q0 @q1 @q2))
  rintro ⟨t, h1, n⟩ ⟨hM, hc⟩
  refine Am.AWP.mid (fun st => delM p 0 h b st ∧ ((startS keyR s [p] ≠ 0 ∧ st.n = 4 ∧ st.h (b + 3) = some ⟨0, seC (startS keyR s [p])⟩) ∨ (startS keyR s [p] = 0 ∧ st.n = 7 ∧ SW st.h (b + 3) (b + 4) (b + 5) (b + 6) (readS s 0 p).1 (readS s 0 p).2))) ?_ ?_
  · have hM0 := hM
    obtain ⟨e1, e2, e4, _, e7, _⟩ := hM0
    simp only at e1 e2 e4 e7
    rcases hc with ⟨hs, hn1, hw⟩ | ⟨hs, hn1, hw⟩
    · simp only at hn1 hw; subst hn1
      refine Raf (jn2 @e7 @e1) (fun E K hE hK => ?_)
      refine Us (sreadBad_ok _ p hs _ (b + 4) (b + 3) (by omega) hw) body_58 ?_
      refine hK _ _ _ ?_; clear hE hK K E
      exact ⟨hM.of (by exact Er) (by exact Er) (by exact Erf @e4) (by exact Er) (by exact Er) (fun _ _ => rfl), .inl ⟨hs, rfl, hw⟩⟩
    · simp only at hn1 hw; subst hn1
      obtain ⟨o, hp⟩ := start_one.1 hs
      refine Raf (jn2 @e7 @e1) (fun E K hE hK => ?_)
      refine CallR.use (sread_ok s 0 p o.nris o.sz.nm (fun x hx => .inr (o.nchk x hx)) (.inr hp) _ (b + 7) (b + 3) (b + 4) (b + 5) (b + 6) (by omega) (by omega) (by omega) (by omega) hw) body_58 ?_
      rintro _ h2 ⟨rfl, k1, k2⟩
      refine hK _ _ _ ?_; clear hE hK K E
      exact ⟨hM.of (by exact Er) (by exact Er) (by exact Erf @e4) (by exact Er) (by exact Er) (fun id hid => k2 id (by omega) (by omega) (by omega) (by omega) (by omega)), .inr ⟨hs, rfl, k1⟩⟩
  clear hM hc t h1 n
  rintro ⟨t, h1, n⟩ ⟨hM, hc⟩
  refine Am.AWP.mid (fun st => delM p (delS keyR s p).1 h b st ∧ endC st.h (b + st.n) (b + 3) (delS keyR s p).2.1 (delS keyR s p).2.2) ?_ ?_
  · refine AWP.block ?_
    have hM0 := hM
    obtain ⟨e1, e2, e4, e5, e7, ⟨v, hb⟩, hb2, ho⟩ := hM0
    simp only at e1 e2 e4 e5 e7 hb hb2 ho
    rcases hc with ⟨hs, hn1, hw⟩ | ⟨hs, hn1, hw⟩
    · simp only at hn1 hw; subst hn1
      have c' : (startS keyR s [p] = 0) = False := eq_false hs
      have hv : delS keyR s p = (0, zSg, startS keyR s [p]) := by unfold delS; rw [if_pos hs]
      rw [hv]
      refine Rkf (jn3 @e7 @hw @c') ?_
      refine Bt ?_
      refine AWP.skip ?_
      exact ⟨hM.of (by exact Er) (by exact Er) (by exact Erf @e4) (by exact Er) (by exact Er) (fun _ _ => rfl), endC_bad (C5 := [.p (.v (.int .u64 0)), .p (.sl 6 []), .p (.sl 5 []), .p (.sl 1 []), .p (.sl 1 [])]) (b + 4) hs rfl (by omega) hw⟩
    · simp only at hn1 hw; subst hn1
      obtain ⟨o, hp⟩ := start_one.1 hs
      have hw0 := hw
      obtain ⟨ev, ec, nv, nc, dv, dc, w1, _⟩ := hw0.w
      by_cases hr : (readS s 0 p).2 = 0
      · have o1 : StOK keyR (readS s 0 p).1 := o.read hp
        have c' : ((readS s 0 p).2 = 0) = True := eq_true hr
        obtain ⟨x, hx⟩ : ∃ x, whatS (readS s 0 p).1 p = x := ⟨_, rfl⟩
        rw [hr] at hw
        refine Rkf (jn3 @e7 @w1 @c') ?_
        refine Bf ?_
        refine Rgf (jn2 @e7 @e1) (fun E K hE hK => ?_)
        refine Us (swhat2_ok o1 hp hw (b + 7) (by omega) (by omega)) body_59 ?_
        refine Evf @hx ?_
        cases hg : x.gone
        case true =>
          have hv : delS keyR s p = (4, (readS s 0 p).1, 0) := by unfold delS; rw [if_neg (by rw [hs]; simp), if_neg (by rw [hr]; simp), hx, if_pos hg]
          refine hK _ _ _ ?_; clear hE hK K E
          rw [hv]
          refine Bt ?_
          refine Ra (fun E K hE hK => ?_); refine hK _ _ _ ?_; clear hE hK K E
          exact ⟨hM.of (by exact Er) (by exact Er) (by exact Er) (by exact Er) (by exact Er) (fun _ _ => rfl), endC_ok (b + 7) (by omega) hw⟩
        case false =>
          have hv : delS keyR s p = (0, endS (editS (readS s 0 p).1 0 (goneE p))) := by unfold delS; rw [if_neg (by rw [hs]; simp), if_neg (by rw [hr]; simp), hx, if_neg (by rw [hg]; simp)]
          refine hK _ _ _ ?_; clear hE hK K E
          rw [hv]
          refine Bf ?_
          refine Raf (jn2 @e7 @e1) (fun E K hE hK => ?_)
          refine CallR.use ((sedit2_ok (x := goneE p) 0 o1 hp hw (b + 7) (show b + 3 < b + 7 by omega) (show b + 4 < b + 7 by omega) (show b + 5 < b + 7 by omega) (show b + 6 < b + 7 by omega)).argNil ⟨lessV.refl _, ⟨.inl rfl, .inl rfl, .inl rfl, .inl rfl, .nil 1, trivial⟩, trivial⟩) body_82 ?_
          rintro _ h3 ⟨rfl, hw3, ho3⟩
          refine Ev ?_
          refine hK _ _ _ ?_; clear hE hK K E
          exact ⟨hM.of (by exact Er) (by exact Er) (by exact Erf @e4) (by exact Er) (by exact Er) (fun id hid => ho3 id (by omega) (by omega) (by omega) (by omega) (by omega)), endC_any (b + 7) (by omega) hw3⟩
      · have hv : delS keyR s p = (0, zSg, (readS s 0 p).2) := by unfold delS; rw [if_neg (by rw [hs]; simp), if_pos hr]
        rw [hv]
        have c' : ((readS s 0 p).2 = 0) = False := eq_false hr
        refine Rkf (jn3 @e7 @w1 @c') ?_
        refine Bt ?_
        refine AWP.skip ?_
        obtain ⟨C5, q1, q2⟩ := hw.err
        exact ⟨hM.of (by exact Er) (by exact Er) (by exact Erf @e4) (by exact Er) (by exact Er) (fun _ _ => rfl), endC_bad (b + 7) hr q1 (by omega) q2⟩
  clear hM hc t h1 n
  rintro ⟨t, h1, n⟩ ⟨hM, hc⟩
  obtain ⟨⟨how, m, e⟩, hv⟩ : ∃ v, delS keyR s p = v := ⟨_, rfl⟩
  rw [hv] at hM hc ⊢
  simp only at hM hc ⊢
  obtain ⟨e1, e2, e4, e5, e7, ⟨v, hb⟩, hb2, ho⟩ := hM
  simp only at e1 e2 e4 e5 e7 hb hb2 ho
  refine Rgf (jn2 @e7 @hb) (fun E K hE hK => ?_)
  refine CallR.use hc body_60 ?_
  rintro _ h2 ⟨rfl, k2⟩
  have hb' := (k2 b (by omega)).trans hb
  have hb2' := (k2 (b + 1) (by omega)).trans hb2
  simp -implicitDefEqProofs only [go_sem, ↓reduceIte, Nat.reduceEqDiff, Nat.reduceAdd, Nat.reduceLT, Nat.reduceLeDiff, reduceCtorEq, Int.toNat_natCast, e2, hb', SgV, encSg]
  refine hK _ _ _ ?_; clear hE hK K E
  have hbB : (upd h2 b ⟨0, (encSg m).map .p⟩) (b + 1) = h2 (b + 1) := upd_ne _ _ _ _ (by omega)
  refine AWP.seqRegD [] [] [b + 1] mixed (by kernel_rfl) (by kernel_rfl) (fun K hK => .inl ?_) (by kernel_rfl); simp -implicitDefEqProofs only [go_sem, ↓reduceIte, Nat.reduceEqDiff, Nat.reduceAdd, Nat.reduceLT, Nat.reduceLeDiff, reduceCtorEq, Int.toNat_natCast, e2, e4, e5, hb2', encSg]
  refine ⟨sub_at _ (by exact Erf @hb2'), ?_⟩
  refine hK _ _ _ ?_; clear hK K
  refine AWP.ret ?_
  exact Ends.pure hn H (fun id hid => (upd_ne _ _ _ _ (Nat.ne_of_lt (Nat.lt_add_right 1 hid))).trans ((upd_ne _ _ _ _ (Nat.ne_of_lt hid)).trans ((k2 id (Nat.lt_add_right 3 hid)).trans (ho id hid)))) (r0 := .tup [IntV how, SgV m, IntV e]) (by rw [show Tryz.f33.results.toList = [.tmp 4, .cell 5 63, .tmp 6] from rfl]; exact Erf @e5) (frz_tup3 (.v _) (frz_psS _) (.v _)) ⟨rfl, rfl⟩
end Go.Proofs.YtihgnpboabpchaaGreatDoor
namespace Go.Proofs.YtihgnpboabpchaaGreatDoor
set_option linter.unusedSimpArgs false
set_option linter.unusedVariables false
set_option linter.unnecessarySimpa false
open Go Am
theorem app_st {C : Ctx} {h : Heap} {n : Nat} {K : KT} {id ver cap len m : Nat} {es fs : List (List PD)} {x : AV} (hr : RowAt h id ver cap 1 es) (hes : okEs 1 es) (hfs : okEs 1 fs) (hx : srcA h 1 x = some (m, fs.flatten.map .p)) (hlen : len = es.length) (hm : m = fs.length) (hl : len + m ≤ 1000000)
    (k : ∀ cap' T', (es ++ fs).length * 1 + T'.length = cap' * 1 → lowCs 0 T' = true → K (.one (.win id (ver + 1) 0 (len + m) cap')) (upd h id (rowB (ver + 1) (es ++ fs) T')) n) :
    BiK Tryz.prog C .append [42, 42] [.one (.win id ver 0 len cap), x] h n K := by
  obtain ⟨T, h1, h3, h4⟩ := hr
  have hfl := okEs_len hes
  refine BiK.append_own (e := 9) (sz := 1) (bytes := 16) (m := m) (xs := fs.flatten.map .p) (blk := rowB ver es T) ty_slE_42 ty_tsz_9 ty_tzero_9 rfl ty_tby_9 ty_isIntT_42 h1 rfl
    (by rw [rowB]; simp only [List.length_append, List.length_map, hfl]; omega) hx (okEs_flat hfs _) (by omega) (by decide) (by omega) (fun cap' j q1 q2 => ?_)
  have e := row_push (sz := 1) (ver := ver + 1) (len := len) (es := es) (fs := fs) (T := T) hes hlen j
  rw [show (rowB ver es T).cells = es.flatten.map .p ++ T from rfl, e]
  exact k cap' _ (by rw [List.length_replicate, List.length_append]; omega) (lowCs_junk _ _)
end Go.Proofs.YtihgnpboabpchaaGreatDoor
namespace Go.Proofs.YtihgnpboabpchaaGreatDoor
set_option linter.unusedSimpArgs false
set_option linter.unusedVariables false
set_option linter.unnecessarySimpa false
open Go Am
set_option maxRecDepth 100000
abbrev zSgC : List Cell := [.p (.v (.int .u64 0)), .p (.v (.slice none 0 0)), .p (.v (.slice none 0 0)), .p (.v (.slice none 0 0)), .p (.v (.slice none 0 0))]
structure LisM (dir : S) (h : Heap) (b V : Nat) (st : St) : Prop where
  e2 : st.t 2 = .one (.ptr b 0 0)
  e3 : st.t 3 = .one (.ptr (b + 1) 0 0)
  e4 : st.t 4 = .one (.p (.v (.slice none 0 0)))
  e5 : st.t 5 = .one (.ptr (b + 2) 0 0)
  e6 : st.t 6 = IntV 0
  e7 : st.t 7 = .one (.ptr V 0 0)
  hd : st.h (b + 1) = some ⟨0, [.p (.v (.string (mkS dir)))]⟩
  h2 : st.h (b + 2) = some ⟨0, zSgC⟩
  hV : st.h V = some ⟨0, [.ptr (b + 3) 0 0]⟩
  ho : ∀ id, id < b → st.h id = h id
def LisC (b : Nat) (s : Sg) (e : Int) (V : Nat) (st : St) : Prop :=
  (e ≠ 0 ∧ st.n = 5 ∧ V = b + 4 ∧ st.h (b + 3) = some ⟨0, seC e⟩) ∨ (st.n = 8 ∧ V = b + 7 ∧ SW st.h (b + 3) (b + 4) (b + 5) (b + 6) s e)
theorem LisM.of {dir : S} {h : Heap} {b V : Nat} {t t' : Nat → AV} {hh hh' : Heap} {n n' : Nat} (k : LisM dir h b V ⟨t, hh, n⟩) (e2 : t' 2 = t 2) (e3 : t' 3 = t 3) (e4 : t' 4 = t 4) (e5 : t' 5 = t 5) (e6 : t' 6 = t 6) (e7 : t' 7 = t 7) (eh : ∀ id, id < b + 3 ∨ id = V → hh' id = hh id) : LisM dir h b V ⟨t', hh', n'⟩ := by
  obtain ⟨k2, k3, k4, k5, k6, k7, q1, q2, q3, q4⟩ := k
  exact ⟨e2.trans k2, e3.trans k3, e4.trans k4, e5.trans k5, e6.trans k6, e7.trans k7, (eh _ (.inl (by omega))).trans q1, (eh _ (.inl (by omega))).trans q2, (eh _ (.inr rfl)).trans q3, fun id hid => (eh id (.inl (by omega))).trans (q4 id hid)⟩
def lst2 (s : Sg) (dir : S) : Int := lstE keyR s dir
def lst3 (s : Sg) (dir : S) : Sg × Int := if lstE keyR s dir ≠ 0 then (s, lstE keyR s dir) else ({ s with dirs := (putE s.dirs 0 dir).1 }, (putE s.dirs 0 dir).2)
theorem lst3_err (s : Sg) (dir : S) (h : (lst3 s dir).2 ≠ 0) : lstS keyR s dir = (zSg, (lst3 s dir).2) := by
  unfold lst3 lstS at *
  by_cases c : lstE keyR s dir ≠ 0
  · simp only [if_pos c] at h ⊢
  · simp only [if_neg c] at h ⊢
    rw [if_pos h]
theorem lst3_ok (s : Sg) (dir : S) (h : (lst3 s dir).2 = 0) : lstS keyR s dir = ((lst3 s dir).1, 0) := by
  unfold lst3 lstS at *
  by_cases c : lstE keyR s dir ≠ 0
  · simp only [if_pos c] at h; exact absurd h c
  · simp only [if_neg c] at h ⊢
    rw [if_neg (by rw [h]; simp)]
theorem sub_gr2 {h h2 : Heap} {b G R : Nat} (hn : ∀ id, b ≤ id → h id = none) (ho : ∀ id, id < b → id ≠ G → id ≠ R → h2 id = h id) {c c2 : List Cell} (h1 : h G = some ⟨0, c⟩) (h2' : h2 G = some ⟨0, c2⟩) : Am.Sub (ers (delH h R) G) h2 := by
  intro id blk e
  rw [ers_lit] at e
  by_cases e1 : id = G
  · subst e1
    rw [if_pos rfl] at e
    by_cases e2 : id = R
    · subst e2; rw [delH_same] at e; cases e
    · rw [delH_ne _ _ _ e2, h1] at e
      injection e with e; subst e
      exact ⟨_, h2', rfl, .inl rfl⟩
  · rw [if_neg e1] at e
    by_cases e2 : id = R
    · subst e2; rw [delH_same] at e; cases e
    · rw [delH_ne _ _ _ e2] at e
      rcases Nat.lt_or_ge id b with h3 | h3
      · exact ⟨blk, by rw [ho id h3 e1 e2]; exact e, rfl, .inr rfl⟩
      · rw [hn id h3] at e; cases e
def LisE (s : Sg) (dir : S) (h : Heap) (b : Nat) (st : St) : Prop :=
  ∃ V, LisM dir h b V st ∧ LisC b (lst3 s dir).1 (lst3 s dir).2 V st
def lisR (s : Sg) (dir : S) (h : Heap) (r : AV) (h' : Heap) : Prop :=
  h' = h ∧ ∃ l, r = .tup [ListV l, SgV (lstS keyR s dir).1, IntV (lstS keyR s dir).2] ∧ ((lstS keyR s dir).2 ≠ 0 → l = []) ∧ ((lstS keyR s dir).2 = 0 → Ris nmQ l ∧ ∀ p, p ∈ l ↔ p ∈ allN s ∧ isIn s dir p = true)
theorem SW.cut {h : Heap} {W E N D m : Nat} {s : Sg} {e : Int} (w : SW h W E N D s e) (h1 : W < m) (h2 : E < m) (h3 : N < m) (h4 : D < m) : SW (cutH m h) W E N D s e := by
  obtain ⟨ev, ec, nv, nc, dv, dc, w1, w2, w3, w4⟩ := w.w
  exact ⟨⟨ev, ec, nv, nc, dv, dc, cutH_same h1 w1 (by simp [lowCs, lowC, h2, h3, h4]), w2.cut h2, w3.cut h3, w4.cut h4⟩, w.d1, w.d2, w.d3, w.d4, w.d5, w.d6⟩
structure LrM (s3 : Sg) (dir : S) (h : Heap) (b : Nat) (l : List S) (st : St) : Prop where
  n : st.n = 9
  e3 : st.t 3 = .one (.ptr (b + 1) 0 0)
  e5 : st.t 5 = .one (.ptr (b + 2) 0 0)
  e6 : st.t 6 = IntV 0
  e7 : st.t 7 = .one (.ptr (b + 7) 0 0)
  hd : st.h (b + 1) = some ⟨0, [.p (.v (.string (mkS dir)))]⟩
  h2 : st.h (b + 2) = some ⟨0, zSgC⟩
  hV : st.h (b + 7) = some ⟨0, [.ptr (b + 3) 0 0]⟩
  ho : ∀ id, id < b → st.h id = h id
  sw : SW st.h (b + 3) (b + 4) (b + 5) (b + 6) s3 0
  row : ∃ ver cap, st.t 4 = .one (.win (b + 8) ver 0 l.length cap) ∧ RowAt st.h (b + 8) ver cap 1 (l.map encS)
theorem LrM.cut {s3 : Sg} {dir : S} {h : Heap} {b : Nat} {l : List S} {t : Nat → AV} {hh : Heap} {m : Nat} (C : Ctx) (hC : C.b = b) (hlow : ∀ id blk, h id = some blk → ∀ c ∈ blk.cells, lowC b c = true) (k : LrM s3 dir h b l ⟨t, hh, 9⟩) : LrM s3 dir h b l ((⟨t, hh, m⟩ : St).cut C 9) := by
  subst hC
  obtain ⟨_, e3, e5, e6, e7, hd, h2, hV, ho, sw, ver, cap, q1, q2⟩ := k
  simp only at e3 e5 e6 e7 hd h2 hV ho sw q1 q2
  refine ⟨rfl, ?_, ?_, ?_, ?_, cutH_same (by omega) hd rfl, cutH_same (by omega) h2 rfl, cutH_same (by omega) hV (by simp [lowCs, lowC]), cutH_outer (by omega) ho hlow, sw.cut (by omega) (by omega) (by omega) (by omega), ver, cap, ?_, q2.cut (by omega)⟩
  · show cutV _ (t 3) = _; rw [e3]; exact cutV_ptr (by omega)
  · show cutV _ (t 5) = _; rw [e5]; exact cutV_ptr (by omega)
  · show cutV _ (t 6) = _; rw [e6]; rfl
  · show cutV _ (t 7) = _; rw [e7]; exact cutV_ptr (by omega)
  · show cutV _ (t 4) = _; rw [q1]; exact cutV_win (by omega)
theorem okEs_n (l : List S) : okEs 1 (l.map encS) := okEs_str l
theorem el_of : ∀ l : List S, (∀ p ∈ l, okG p) → ∃ d : Array PdSt.El, d.toList.map (·.1) = l := fun l h =>
  ⟨(l.attach.map fun x => (⟨x.1, h x.1 x.2⟩ : PdSt.El)).toArray, by simp [List.map_map, Function.comp_def]⟩
structure WhS (s : Sg) : Prop where
  t : s.t.length ≤ 1000000
  ris : Ris nmE s.ed
  ed : s.ed.length ≤ 1000000
  data : ∀ x ∈ s.ed, x.data.length ≤ 1000000
  chk : ∀ x ∈ s.ed, chkN x.name = 0
theorem slist1_ok {s : Sg} {dir p : S} (o : WhS s) (hdir : okG dir) (hp : chkN p = 0) {h : Heap} {X V W B N D : Nat} (b : Nat) (hX : h X = some ⟨0, [.p (.v (.string (mkS dir)))]⟩) (hV : h V = some ⟨0, [.ptr W 0 0]⟩) (hw : SW h W B N D s 0) (hXb : X < b) (hVb : V < b) (hWb : W < b) (hBb : B < b) :
    ACalls Tryz.prog 68 [StrV p, .one (.ptr X 0 0), .one (.ptr V 0 0)] h b 0 (fun r h' => r = BoolV (!isIn s dir p) ∧ h' = h) := by
  refine ACalls.enter Tryz.func68 rfl (by simp [Tryz.ntmps68]) (fun ι w hn H => ?_)
  have hwi : withinN dir p = (decide (dir = []) || (dir ++ [47]).isPrefixOf p, 0) := by
    unfold withinN
    have hf : folN dir = 0 := by
      unfold folN
      rcases hdir with e | e
      · rw [if_pos e]
      · by_cases c : dir = []
        · rw [if_pos c]
        · rw [if_neg c]; exact e
    rw [if_neg (by rw [hf, hp]; simp)]
  unfold isIn
  have k1 := Within_ok (mkS dir) (mkS p) h (b + 0)
  rw [show bl (mkS dir) = dir from rfl, show bl (mkS p) = p from rfl, hwi] at k1
  rw [hwi]
  have k2 := swhat_ok s 0 p o.t o.ris o.ed o.data o.chk (.inr hp) h (b + 0) W B N D hWb hBb hw
  obtain ⟨v, hv⟩ : ∃ v, (decide (dir = []) || (dir ++ [47]).isPrefixOf p) = v := ⟨_, rfl⟩
  obtain ⟨y, hy⟩ : ∃ y, whatS s p = y := ⟨_, rfl⟩
  simp only at k1
  rw [hv] at k1 ⊢
  rw [hy] at k2 ⊢
  have fin : ∀ (t : Nat → AV) (u : Bool), t 4 = BoolV u → u = (!(v && !y.gone)) → Am.Ends Tryz.prog ⟨Tryz.f68.ntmps, b, ι, h, w, x0⟩ Tryz.f68 0 (fun r h' => r = BoolV (!((v, (0 : Int)).1 && !y.gone)) ∧ h' = h) ⟨t, h, 0⟩ := by
    intro t u h1 h2
    exact Ends.pure hn H (fun _ _ => rfl) (r0 := BoolV u) (by rw [show Tryz.f68.results.toList = [.tmp 4] from rfl]; exact Ecf @h1) (.v _) ⟨by rw [h2], rfl⟩
  refine Rk ?_
  refine Rgf @hX (fun E K hE hK => ?_)
  refine Us k1 body_69 ?_
  refine hK _ _ _ ?_; clear hE hK K E
  cases v with
  | false =>
    refine Rk ?_
    refine AWP.ret ?_
    refine Ev ?_
    exact fin _ true (by exact Er) rfl
  | true =>
    refine Rgf @hV (fun E K hE hK => ?_)
    refine Us k2 body_59 ?_
    cases hg : y.gone
    · refine hK _ _ _ ?_; clear hE hK K E
      refine AWP.ret ?_
      refine Ev ?_
      exact fin _ false (by exact Er) (by rw [hg]; rfl)
    · refine hK _ _ _ ?_; clear hE hK K E
      refine AWP.ret ?_
      refine Ev ?_
      exact fin _ true (by exact Er) (by rw [hg]; rfl)
theorem slist_ok (s : Sg) (dir : S) (z : SzS s) (h : Heap) (b : Nat) : ACalls Tryz.prog 25 [SgV s, StrV dir] h b 0 (lisR s dir h) := by
  refine ACalls.enter Tryz.func25 rfl (by simp [Tryz.ntmps25]) (fun ι w hn H => ?_)
  have hlow := H.lowCells
  refine Rk ?_
  refine Am.AWP.mid (fun st => ∃ V, LisM dir h b V st ∧ LisC b s (checkS keyR s) V st) ?_ ?_
  · have q8 : ∀ id, id < b + 3 → ¬ id = b + 7 := fun id hid => by omega
    have q4 : ∀ id, id < b + 3 → ¬ id = b + 4 := fun id hid => by omega
    have qlow : ∀ id, id < b → ¬ id = b ∧ ¬ id = b + 1 ∧ ¬ id = b + 2 := fun id hid => by omega
    by_cases hs : checkS keyR s = 0
    · refine Ra (fun E K hE hK => ?_)
      refine CallR.use ((sstart_ok s [] z (by simp) hs _ (b + 3)).argNil ⟨lessV.refl _, .nil 1, trivial⟩) body_57 ?_
      rintro _ h2 ⟨rfl, k1, k2⟩
      obtain ⟨ev, ec, nv, nc, dv, dc, w1, _⟩ := k1.w
      refine Evf @w1 ?_
      refine hK _ _ _ ?_; clear hE hK K E
      refine ⟨b + 7, ⟨by exact Er, by exact Er, by exact Er, by exact Er, by exact Er, by exact Er, (upd_ne _ _ _ _ (q8 _ (by omega))).trans ((k2 (b + 1) (by omega)).trans (by exact Er)), (upd_ne _ _ _ _ (q8 _ (by omega))).trans ((k2 (b + 2) (by omega)).trans (by exact Er)), upd_same _ _ _, fun id hid => ?_⟩, .inr ⟨rfl, rfl, ?_⟩⟩
      · obtain ⟨a1, a2, a3⟩ := qlow id hid
        exact (upd_ne _ _ _ _ (q8 _ (by omega))).trans ((k2 id (by omega)).trans (by exact Erf (jn3 @a1 @a2 @a3)))
      · rw [hs]
        exact k1.of (upd_ne _ _ _ _ (by omega)) (upd_ne _ _ _ _ (by omega)) (upd_ne _ _ _ _ (by omega)) (upd_ne _ _ _ _ (by omega))
    · refine Ra (fun E K hE hK => ?_)
      refine CallR.use ((sstartBad_ok s [] z (by simp) hs _ (b + 3)).argNil ⟨lessV.refl _, .nil 1, trivial⟩) body_57 ?_
      rintro _ h2 ⟨rfl, k1⟩
      subst k1
      refine Ev ?_
      refine hK _ _ _ ?_; clear hE hK K E
      refine ⟨b + 4, ⟨by exact Er, by exact Er, by exact Er, by exact Er, by exact Er, by exact Er, by exact Er, by exact Er, by exact Er, fun id hid => ?_⟩, .inl ⟨hs, rfl, rfl, by exact Er⟩⟩
      have q3 : ¬ id = b + 3 := by omega
      have q4 : ¬ id = b + 4 := by omega
      obtain ⟨a1, a2, a3⟩ := qlow id hid
      exact Ecf (jn5 @a1 @a2 @a3 @q3 @q4)
  rintro ⟨t, hh, n⟩ ⟨V, hM, hC⟩
  refine Am.AWP.mid (fun st => ∃ V, LisM dir h b V st ∧ LisC b s (lstE keyR s dir) V st) ?_ ?_
  · have hM0 := hM
    obtain ⟨e2, e3, e4, e5, e6, e7, hd, h2, hV, ho⟩ := hM0
    simp only at e2 e3 e4 e5 e6 e7 hd h2 hV ho
    rcases hC with ⟨hs, hn1, rfl, hw⟩ | ⟨hn1, rfl, hw⟩
    · simp only at hn1 hw; subst hn1
      have c' : (checkS keyR s = 0) = False := eq_false hs
      have hl : lstE keyR s dir = checkS keyR s := by unfold lstE; rw [if_neg (fun q => hs q.1)]
      rw [hl]
      refine Rkf (jn4 @e7 @hV @hw @c') ?_
      refine Bf ?_
      exact AWP.skip ⟨b + 4, hM.of (by exact Er) (by exact Er) (by exact Er) (by exact Er) (by exact Er) (by exact Er) (fun _ _ => rfl), .inl ⟨hs, rfl, rfl, hw⟩⟩
    · simp only at hn1 hw; subst hn1
      have hw0 := hw
      obtain ⟨ev, ec, nv, nc, dv, dc, w1, w2, w3, w4⟩ := hw0.w
      by_cases hs : checkS keyR s = 0
      · have c' : (checkS keyR s = 0) = True := eq_true hs
        by_cases hd0 : dir = []
        · have cd : (dir = []) = True := eq_true hd0
          have hl : lstE keyR s dir = checkS keyR s := by unfold lstE; rw [if_neg (fun q => q.2 hd0)]
          rw [hl]
          refine Rkf (jn2 @e7 (jn7 @e3 @hV @w1 @hd @c' @mkS_list @cd)) ?_
          refine Bf ?_
          exact AWP.skip ⟨b + 7, hM.of (by exact Er) (by exact Er) (by exact Er) (by exact Er) (by exact Er) (by exact Er) (fun _ _ => rfl), .inr ⟨rfl, rfl, hw⟩⟩
        · have cd : (dir = []) = False := eq_false hd0
          have hl : lstE keyR s dir = chkN dir := by unfold lstE; rw [if_pos ⟨hs, hd0⟩]
          rw [hl]
          refine Rkf (jn2 @e7 (jn7 @e3 @hV @w1 @hd @c' @mkS_list @cd)) ?_
          refine Bt ?_
          have nV3 : ¬ b + 7 = b + 3 := by omega
          have n13 : ¬ b + 1 = b + 3 := by omega
          refine AWP.rgS [] [] (ers hh (b + 3)) (sub_ers _ _) mixed (by kernel_rfl) (by kernel_rfl) (fun K hK => ?_) (by kernel_rfl); simp -implicitDefEqProofs only [go_sem, ↓reduceIte, Nat.reduceEqDiff, Nat.reduceAdd, Nat.reduceLT, Nat.reduceLeDiff, reduceCtorEq, Int.toNat_natCast, e7, e3, hV, hd, w1, nV3, n13]
          refine CallD.use (Check_ok (mkS dir) _ _) body_31 ?_
          rintro _ h_ ⟨rfl, e_⟩
          rw [e_]; clear e_ h_
          refine ⟨sub_ers _ _, ?_⟩
          refine Evf @w1 ?_
          refine ⟨sub_at _ w1, ?_⟩
          refine hK _ _ _ ?_; clear hK K
          exact ⟨b + 7, hM.of (by exact Er) (by exact Er) (by exact Er) (by exact Er) (by exact Er) (by exact Er) (fun id hid => upd_ne _ _ _ _ (by omega)), .inr ⟨rfl, rfl, ⟨ev, ec, nv, nc, dv, dc, upd_same _ _ _, w2.ne (by omega), w3.ne (by omega), w4.ne (by omega)⟩, hw.d1, hw.d2, hw.d3, hw.d4, hw.d5, hw.d6⟩⟩
      · have c' : (checkS keyR s = 0) = False := eq_false hs
        have hl : lstE keyR s dir = checkS keyR s := by unfold lstE; rw [if_neg (fun q => hs q.1)]
        rw [hl]
        refine Rkf (jn4 @e7 @hV @w1 @c') ?_
        refine Bf ?_
        exact AWP.skip ⟨b + 7, hM.of (by exact Er) (by exact Er) (by exact Er) (by exact Er) (by exact Er) (by exact Er) (fun _ _ => rfl), .inr ⟨rfl, rfl, hw⟩⟩
  clear hM hC t hh n V
  rintro ⟨t, hh, n⟩ ⟨V, hM, hC⟩
  refine Am.AWP.mid (fun st => ∃ V, LisM dir h b V st ∧ LisC b (lst3 s dir).1 (lst3 s dir).2 V st) ?_ ?_
  · have hM0 := hM
    obtain ⟨e2, e3, e4, e5, e6, e7, hd, h2, hV, ho⟩ := hM0
    simp only at e2 e3 e4 e5 e6 e7 hd h2 hV ho
    by_cases hs : lstE keyR s dir = 0
    · rcases hC with ⟨hs', _⟩ | ⟨hn1, rfl, hw⟩
      · exact absurd hs hs'
      simp only at hn1 hw; subst hn1
      have c' : (lstE keyR s dir = 0) = True := eq_true hs
      obtain ⟨o, hdir⟩ := lstE_zero.1 hs
      have hl : lst3 s dir = ({ s with dirs := (putE s.dirs 0 dir).1 }, (putE s.dirs 0 dir).2) := by unfold lst3; rw [if_neg (by rw [hs]; simp)]
      rw [hl]
      rw [hs] at hw
      have hw0 := hw
      obtain ⟨ev, ec, nv, nc, dv, dc, w1, w2, w3, w4⟩ := hw0.w
      refine Rkf (jn4 @e7 @hV @w1 @hs) ?_
      refine Bt ?_
      have nV3 : ¬ b + 7 = b + 3 := by omega
      have n13 : ¬ b + 1 = b + 3 := by omega
      have nV6 : ¬ b + 7 = b + 6 := by omega
      have n16 : ¬ b + 1 = b + 6 := by omega
      have n36 : ¬ b + 3 = b + 6 := by omega
      refine AWP.known ?_
      intro hfree
      refine AWP.rgS [40] [] (ers (delH hh (b + 6)) (b + 3)) ((sub_ers _ _).trans (sub_delH _ _)) mixed (by kernel_rfl) (by kernel_rfl) (fun K hK => ?_) (by kernel_rfl); simp -implicitDefEqProofs only [go_sem, ↓reduceIte, Nat.reduceEqDiff, Nat.reduceAdd, Nat.reduceLT, Nat.reduceLeDiff, reduceCtorEq, Int.toNat_natCast, e7, e3, hV, hd, w1, nV3, n13, nV6, n16, n36, delH]
      refine ⟨(sub_ers _ _).trans (sub_delH _ _), ?_⟩
      refine CallD.use (sput_ok s 0 s.dirs dir o.drs.1 (by have := o.dlen; omega) o.drs.2 hdir hh _ (b + 3) (b + 6) dv dc (b + 4) ev ec (b + 5) nv nc (b + 6) dv dc (show b + 3 < b + 8 by omega) (show b + 6 < b + 8 by omega) n36 (show b + 4 < b + 8 by omega) (show b + 5 < b + 8 by omega) (show b + 6 < b + 8 by omega) w1 w4) body_63 ?_
      rintro _ h3 ⟨xv, xc, rfl, g1, g2, g3⟩
      refine ⟨sub_gr2 (b := b + 8) hfree g3 w1 g1, ?_⟩
      obtain ⟨T2, q1, q2, q3⟩ := g2
      have hD3 : delH hh (b + 6) (b + 3) = some ⟨0, swC s 0 (b + 4) ev ec (b + 5) nv nc (b + 6) dv dc⟩ := (delH_ne _ _ _ n36).trans w1
      simp -implicitDefEqProofs only [go_sem, ↓reduceIte, Nat.reduceEqDiff, Nat.reduceAdd, Nat.reduceLT, Nat.reduceLeDiff, reduceCtorEq, Int.toNat_natCast, g1, q1, rowB, hD3]
      refine ⟨(sub_gr2 (c2 := [.p (.v (.int .u64 s.gen)), .p (.sl 6 (s.t.map encF)), .win (b + 4) ev 0 s.ed.length ec, .win (b + 5) nv 0 s.names.length nc, .win (b + 6) xv 0 (putE s.dirs 0 dir).1.length xc, .p (.v (.int .i64 (putE s.dirs 0 dir).2))]) (b := b + 8) hfree (fun id hid a1 a2 => (upd_ne _ _ _ _ a1).trans (g3 id hid a1 a2)) w1 (upd_same _ _ _)), ?_⟩
      refine hK _ _ _ ?_; clear hK K
      have g4 : ∀ id, id < b + 8 → id ≠ b + 3 → id ≠ b + 6 → (upd h3 (b + 3) ⟨0, [.p (.v (.int .u64 s.gen)), .p (.sl 6 (s.t.map encF)), .win (b + 4) ev 0 s.ed.length ec, .win (b + 5) nv 0 s.names.length nc, .win (b + 6) xv 0 (putE s.dirs 0 dir).1.length xc, .p (.v (.int .i64 (putE s.dirs 0 dir).2))]⟩) id = hh id := fun id hid a1 a2 => (upd_ne _ _ _ _ a1).trans (g3 id hid a1 a2)
      exact ⟨b + 7, hM.of (by exact Er) (by exact Er) (by exact Er) (by exact Er) (by exact Er) (by exact Er) (fun id hid => g4 id (by omega) (by omega) (by omega)), .inr ⟨rfl, rfl, ⟨ev, ec, nv, nc, xv, xc, upd_same _ _ _, w2.ofE (g4 _ (by omega) (by omega) (by omega)), w3.ofE (g4 _ (by omega) (by omega) (by omega)), ⟨T2, (upd_ne _ _ _ _ (by omega)).trans q1, q2, q3⟩⟩, hw.d1, hw.d2, hw.d3, hw.d4, hw.d5, hw.d6⟩⟩
    · have c' : (lstE keyR s dir = 0) = False := eq_false hs
      have hl : lst3 s dir = (s, lstE keyR s dir) := by unfold lst3; rw [if_pos hs]
      rw [hl]
      rcases hC with ⟨_, hn1, rfl, hw⟩ | ⟨hn1, rfl, hw⟩
      · simp only at hn1 hw; subst hn1
        refine Rkf (jn4 @e7 @hV @hw @c') ?_
        refine Bf ?_
        exact AWP.skip ⟨b + 4, hM.of (by exact Er) (by exact Er) (by exact Er) (by exact Er) (by exact Er) (by exact Er) (fun _ _ => rfl), .inl ⟨hs, rfl, rfl, hw⟩⟩
      · simp only at hn1 hw; subst hn1
        have hw0 := hw
        obtain ⟨ev, ec, nv, nc, dv, dc, w1, w2, w3, w4⟩ := hw0.w
        refine Rkf (jn4 @e7 @hV @w1 @c') ?_
        refine Bf ?_
        exact AWP.skip ⟨b + 7, hM.of (by exact Er) (by exact Er) (by exact Er) (by exact Er) (by exact Er) (by exact Er) (fun _ _ => rfl), .inr ⟨rfl, rfl, hw⟩⟩
  clear hM hC t hh n V
  rintro ⟨t, hh, n⟩ ⟨V, hM, hC⟩
  obtain ⟨⟨s3, ev3⟩, hl3⟩ : ∃ r, lst3 s dir = r := ⟨_, rfl⟩
  have herr := lst3_err s dir
  have hok := lst3_ok s dir
  rw [hl3] at hC herr hok
  simp only at hC herr hok
  clear hl3
  obtain ⟨e2, e3, e4, e5, e6, e7, hd, h2, hV, ho⟩ := hM
  simp only at e2 e3 e4 e5 e6 e7 hd h2 hV ho
  refine AWP.seq ?_
  by_cases he : ev3 = 0
  case neg =>
    have c' : (ev3 = 0) = False := eq_false he
    rcases hC with ⟨_, hn1, rfl, hw⟩ | ⟨hn1, rfl, hw⟩
    · simp only at hn1 hw; subst hn1
      have nV : ¬ b + 4 = b + 2 := by omega
      have nW : ¬ b + 3 = b + 2 := by omega
      refine Rkf (jn4 @e7 @hV @hw @c') ?_
      refine Bt ?_
      refine AWP.seqRegD [] [] [b + 2] mixed (by kernel_rfl) (by kernel_rfl) (fun K hK => .inl ?_) (by kernel_rfl); simp -implicitDefEqProofs only [go_sem, ↓reduceIte, Nat.reduceEqDiff, Nat.reduceAdd, Nat.reduceLT, Nat.reduceLeDiff, reduceCtorEq, Int.toNat_natCast, e5, e7, hV, hw, h2, nV, nW]
      refine ⟨sub_at _ (by exact Erf @h2), ?_⟩
      refine hK _ _ _ ?_; clear hK K
      refine AWP.ret ?_
      exact Ends.pure hn H (fun id hid => (upd_ne _ _ _ _ (Nat.ne_of_lt (Nat.lt_add_right 2 hid))).trans (ho id hid)) (r0 := .tup [.one (.p (.v (.slice none 0 0))), .agg zSgC, IntV ev3]) (by rw [show Tryz.f25.results.toList = [.tmp 4, .cell 5 63, .tmp 6] from rfl]; exact Erf @e5) (frz_tup3 (.one (frz_nil 1)) frz_sg0 (.v _)) ⟨rfl, [], by rw [herr he]; rfl, fun _ => rfl, fun q => absurd q (by rw [herr he]; exact he)⟩
    · simp only at hn1 hw; subst hn1
      obtain ⟨ev, ec, nv, nc, dv, dc, w1, w2, w3, w4⟩ := hw.w
      have nV : ¬ b + 7 = b + 2 := by omega
      have nW : ¬ b + 3 = b + 2 := by omega
      refine Rkf (jn4 @e7 @hV @w1 @c') ?_
      refine Bt ?_
      refine AWP.seqRegD [] [] [b + 2] mixed (by kernel_rfl) (by kernel_rfl) (fun K hK => .inl ?_) (by kernel_rfl); simp -implicitDefEqProofs only [go_sem, ↓reduceIte, Nat.reduceEqDiff, Nat.reduceAdd, Nat.reduceLT, Nat.reduceLeDiff, reduceCtorEq, Int.toNat_natCast, e5, e7, hV, w1, h2, nV, nW]
      refine ⟨sub_at _ (by exact Erf @h2), ?_⟩
      refine hK _ _ _ ?_; clear hK K
      refine AWP.ret ?_
      exact Ends.pure hn H (fun id hid => (upd_ne _ _ _ _ (Nat.ne_of_lt (Nat.lt_add_right 2 hid))).trans (ho id hid)) (r0 := .tup [.one (.p (.v (.slice none 0 0))), .agg zSgC, IntV ev3]) (by rw [show Tryz.f25.results.toList = [.tmp 4, .cell 5 63, .tmp 6] from rfl]; exact Erf @e5) (frz_tup3 (.one (frz_nil 1)) frz_sg0 (.v _)) ⟨rfl, [], by rw [herr he]; rfl, fun _ => rfl, fun q => absurd q (by rw [herr he]; exact he)⟩
  subst he
  rcases hC with ⟨he, _⟩ | ⟨hn1, rfl, hw⟩
  · exact absurd rfl he
  simp only at hn1 hw; subst hn1
  have hls := hok rfl
  obtain ⟨o, hdir, hs3⟩ := lst_inv hls
  have hw0 := hw
  obtain ⟨ev, ec, nv, nc, dv, dc, w1, w2, w3, w4⟩ := hw0.w
  refine Rkf (jn3 @e7 @hV @w1) ?_
  refine Bs ?_
  refine AWP.virt 4 (by exact Erf @e4) ?_
  have ht3 : s3.t = s.t := by rw [hs3]
  have hed3 : s3.ed = s.ed := by rw [hs3]
  have htl := o.tlen
  have hel := o.len
  have hwt : ∀ s' : Sg, whatS s3 = whatS s := fun _ => by funext p; exact what_of hed3 ht3
  have n8 : ∀ x, x < b + 8 → x ≠ b + 8 := fun x hx => by omega
  refine PdSt.awp_st (LrM s3 dir h b []) ⟨rfl, by exact Erf @e3, by exact Erf @e5, by exact Erf @e6, by exact Erf @e7, (upd_ne _ _ _ _ (n8 _ (by omega))).trans hd, (upd_ne _ _ _ _ (n8 _ (by omega))).trans h2, (upd_ne _ _ _ _ (n8 _ (by omega))).trans hV, fun id hid => (upd_ne _ _ _ _ (n8 id (by omega))).trans (ho id hid), hw.of (upd_ne _ _ _ _ (n8 _ (by omega))) (upd_ne _ _ _ _ (n8 _ (by omega))) (upd_ne _ _ _ _ (n8 _ (by omega))) (upd_ne _ _ _ _ (n8 _ (by omega))), 0, 0, by exact Er, RowAt.nil⟩ ?_
  clear e2 e3 e4 e5 e6 e7 hd h2 hV ho hw hw0 w1 w2 w3 w4 t hh
  intro st hM
  refine Am.AWP.mid (LrM s3 dir h b (s.t.map Fl.name)) ?_ ?_
  · obtain ⟨t, hh, n⟩ := st
    have hM0 := hM
    obtain ⟨rfl, e3, e5, e6, e7, hd, h2, hV, ho, hw, ver, cap, e4, hrow⟩ := hM0
    simp only at e3 e5 e6 e7 hd h2 hV ho hw e4 hrow
    obtain ⟨ev, ec, nv, nc, dv, dc, w1, w2, w3, w4⟩ := hw.w
    have hlm : (s.t.map encF).length = s.t.length := List.length_map _
    refine Rkf (jn5 @e7 @hV @w1 @ht3 @hlm) ?_
    refine AWP.block ?_
    refine AWP.loopM 9 (fun m st => ∃ i, i ≤ s.t.length ∧ m = s.t.length - i ∧ LrM s3 dir h b ((s.t.take i).map Fl.name) st ∧ st.t 61 = FlsV s.t ∧ st.t 62 = IntV s.t.length ∧ st.t 63 = IntV i) s.t.length rfl ⟨0, Nat.zero_le _, rfl, ⟨rfl, by exact Ecf @e3, by exact Ecf @e5, by exact Ecf @e6, by exact Ecf @e7, hd, h2, hV, ho, hw, ver, cap, by exact Ecf @e4, hrow⟩, by exact Er, by exact Er, by exact Er⟩ ?_
    clear hM e3 e5 e6 e7 hd h2 hV ho hw e4 hrow w1 w2 w3 w4
    rintro m ⟨t, hh, n⟩ ⟨i, hi, rfl, ⟨hn0, e3, e5, e6, e7, hd, h2, hV, ho, hw, ver, cap, e4, hrow⟩, e61, e62, e63⟩ hn1
    simp only at hn0 e3 e5 e6 e7 hd h2 hV ho hw e4 hrow e61 e62 e63 hn1
    subst hn0
    refine Rkf (jn2 @e62 @e63) ?_
    refine AWP.seq ?_
    by_cases hlt : (i : Int) < s.t.length
    · have w9 := PdSt.w_add1 (a := i) (by omega)
      have hi2 : i < s.t.length := by omega
      have hge : (s.t.map encF).getD i [] = encF s.t[i] := getD_map encF s.t i hi2
      obtain ⟨f, hf⟩ : ∃ f, s.t[i] = f := ⟨_, rfl⟩
      rw [hf] at hge
      have htk : (s.t.take (i + 1)).map Fl.name = (s.t.take i).map Fl.name ++ [f.name] := by
        rw [List.take_add_one, List.getElem?_eq_getElem hi2, hf, List.map_append]; rfl
      refine Btf @hlt ?_
      refine AWP.skip ?_
      refine Ev ?_
      refine AWP.seq ?_
      refine AWP.block ?_
      refine AWP.seqReg (by kernel_rfl) (fun E K hE hK => ?_); simp -implicitDefEqProofs only [go_sem, ↓reduceIte, Nat.reduceEqDiff, Nat.reduceAdd, Nat.reduceLT, Nat.reduceLeDiff, reduceCtorEq, Int.toNat_natCast, e61, e63, hlm, hlt, hge, encF]
      repeat (refine ⟨by omega, ?_⟩)
      refine hK _ _ _ ?_; clear hE hK K E
      refine Raf @e4 (fun E K hE hK => ?_)
      refine BiR.of ?_
      refine app_st (m := 1) (fs := [encS f.name]) ((hrow.ne (by omega)).ne (by omega)) (okEs_n _) (okEs_n [f.name]) (srcA_row (sz := 1) (m := 1) (es := [encS f.name]) (T := []) 0 (upd_same _ _ _) (okEs_n [f.name]) (by simp) (.inl rfl)) (by rw [List.length_map, List.length_map]) rfl (by simp; omega) (fun cap' T' z1 z2 => ?_)
      refine Ev ?_
      refine hK _ _ _ ?_; clear hE hK K E
      refine Raf (jn2 @e63 @w9) (fun E K hE hK => ?_); refine hK _ _ _ ?_; clear hE hK K E
      have g : ∀ x, x < b + 8 → (upd (upd (upd hh (b + 9) ⟨0, (encF f).map .p⟩) (b + 10) ⟨0, [.p (.v (.string (mkS f.name)))]⟩) (b + 8) (rowB (ver + 1) (List.map encS (List.map Fl.name (List.take i s.t)) ++ [encS f.name]) T')) x = hh x := fun x hx => (upd_ne _ _ _ _ (show x ≠ b + 8 by omega)).trans ((upd_ne _ _ _ _ (show x ≠ b + 10 by omega)).trans (upd_ne _ _ _ _ (show x ≠ b + 9 by omega)))
      refine ⟨(by decide : 9 ≤ 11), s.t.length - (i + 1), by omega, i + 1, by omega, rfl, LrM.cut ⟨_, b, ι, h, w, x0⟩ rfl hlow ⟨rfl, by exact Ecf @e3, by exact Ecf @e5, by exact Ecf @e6, by exact Ecf @e7, (g _ (by omega)).trans hd, (g _ (by omega)).trans h2, (g _ (by omega)).trans hV, fun id hid => (g id (by omega)).trans (ho id hid), hw.of (g _ (by omega)) (g _ (by omega)) (g _ (by omega)) (g _ (by omega)), ver + 1, cap', ?_, ?_⟩, by exact Ecf @e61, by exact Ecf @e62, by exact Er⟩
      · rw [htk, List.length_append, List.length_map]; exact Er
      · rw [htk, List.map_append]; exact RowAt.new z1 z2
    · refine Bff @hlt ?_
      refine AWP.exit ?_
      refine Ev ?_
      have hie : i = s.t.length := by omega
      subst hie
      rw [List.take_length] at e4 hrow
      exact ⟨rfl, by exact Ecf @e3, by exact Ecf @e5, by exact Ecf @e6, by exact Ecf @e7, hd, h2, hV, ho, hw, ver, cap, by exact Ecf @e4, hrow⟩
  clear hM st
  intro st hM
  refine Am.AWP.mid (LrM s3 dir h b (allN s)) ?_ ?_
  · obtain ⟨t, hh, n⟩ := st
    have hM0 := hM
    obtain ⟨rfl, e3, e5, e6, e7, hd, h2, hV, ho, hw, ver, cap, e4, hrow⟩ := hM0
    simp only at e3 e5 e6 e7 hd h2 hV ho hw e4 hrow
    obtain ⟨ev, ec, nv, nc, dv, dc, w1, ⟨TE, a1, a2, a3⟩, w3, w4⟩ := hw.w
    have hel3 : s3.ed.length = s.ed.length := by rw [hed3]
    rw [hed3] at a1
    refine AWP.seqReg (by kernel_rfl) (fun E K hE hK => ?_); simp -implicitDefEqProofs only [go_sem, ↓reduceIte, Nat.reduceEqDiff, Nat.reduceAdd, Nat.reduceLT, Nat.reduceLeDiff, reduceCtorEq, Int.toNat_natCast, e7, hV, w1, hel3, a1, rowB]
    refine hK _ _ _ ?_; clear hE hK K E
    refine AWP.block ?_
    refine AWP.loopM 9 (fun m st => ∃ i, i ≤ s.ed.length ∧ m = s.ed.length - i ∧ LrM s3 dir h b (s.t.map Fl.name ++ (s.ed.take i).map Ed.name) st ∧ st.t 77 = .one (.win (b + 4) ev 0 s.ed.length ec) ∧ st.t 78 = IntV s.ed.length ∧ st.t 79 = IntV i ∧ st.h (b + 4) = some (rowB ev (s.ed.map encEd) TE)) s.ed.length rfl ⟨0, Nat.zero_le _, rfl, ⟨rfl, by exact Ecf @e3, by exact Ecf @e5, by exact Ecf @e6, by exact Ecf @e7, hd, h2, hV, ho, hw, ver, cap, by exact Erf @e4, by rw [List.take_zero, List.map_nil, List.append_nil]; exact hrow⟩, by exact Er, by exact Er, by exact Er, a1⟩ ?_
    clear hM e3 e5 e6 e7 hd h2 hV ho hw e4 hrow w1 w3 w4 a1
    rintro m ⟨t, hh, n⟩ ⟨i, hi, rfl, ⟨hn0, e3, e5, e6, e7, hd, h2, hV, ho, hw, ver, cap, e4, hrow⟩, e77, e78, e79, a1⟩ hn1
    simp only at hn0 e3 e5 e6 e7 hd h2 hV ho hw e4 hrow e77 e78 e79 a1 hn1
    subst hn0
    refine Rkf (jn2 @e78 @e79) ?_
    refine AWP.seq ?_
    by_cases hlt : (i : Int) < s.ed.length
    · have w9 := PdSt.w_add1 (a := i) (by omega)
      have hi2 : i < s.ed.length := by omega
      obtain ⟨x, hx⟩ : ∃ x, s.ed[i] = x := ⟨_, rfl⟩
      have hpart := row_part TE (okEs_ed s.ed) (i := i) (e := encEd x) (by rw [List.getElem?_map, List.getElem?_eq_getElem hi2, hx]; rfl)
      have hlE : (List.map Cell.p (s.ed.map encEd).flatten ++ TE).length = s.ed.length * 5 + TE.length := by rw [List.length_append, List.length_map, okEs_len (okEs_ed _), List.length_map]
      have a1' : hh (b + 4) = some ⟨ev, List.map Cell.p (s.ed.map encEd).flatten ++ TE⟩ := a1
      generalize List.map Cell.p (s.ed.map encEd).flatten ++ TE = LE at hpart hlE a1'
      have htk : s.t.map Fl.name ++ (s.ed.take (i + 1)).map Ed.name = (s.t.map Fl.name ++ (s.ed.take i).map Ed.name) ++ [x.name] := by
        rw [List.take_add_one, List.getElem?_eq_getElem hi2, hx, List.map_append, List.append_assoc]; rfl
      have hll : (s.t.map Fl.name ++ (s.ed.take i).map Ed.name).length ≤ 600 := by simp; omega
      obtain ⟨l0, hl0⟩ : ∃ l0, s.t.map Fl.name ++ (s.ed.take i).map Ed.name = l0 := ⟨_, rfl⟩
      rw [hl0] at htk hll e4 hrow
      refine Btf @hlt ?_
      refine AWP.skip ?_
      refine Ev ?_
      refine AWP.seq ?_
      refine AWP.block ?_
      refine AWP.seqReg (by kernel_rfl) (fun E K hE hK => ?_); simp -implicitDefEqProofs only [go_sem, ↓reduceIte, Nat.reduceEqDiff, Nat.reduceAdd, Nat.reduceLT, Nat.reduceLeDiff, reduceCtorEq, Int.toNat_natCast, e77, e79, a1', hlt, hpart, encEd]
      repeat (refine ⟨by omega, ?_⟩)
      refine hK _ _ _ ?_; clear hE hK K E
      refine Raf @e4 (fun E K hE hK => ?_)
      refine BiR.of ?_
      refine app_st (m := 1) (fs := [encS x.name]) ((hrow.ne (by omega)).ne (by omega)) (okEs_n _) (okEs_n [x.name]) (srcA_row (sz := 1) (m := 1) (es := [encS x.name]) (T := []) 0 (upd_same _ _ _) (okEs_n [x.name]) (by simp) (.inl rfl)) (by rw [List.length_map]) rfl (by omega) (fun cap' T' z1 z2 => ?_)
      refine Ev ?_
      refine hK _ _ _ ?_; clear hE hK K E
      refine Raf (jn2 @e79 @w9) (fun E K hE hK => ?_); refine hK _ _ _ ?_; clear hE hK K E
      have g : ∀ y, y < b + 8 → (upd (upd (upd hh (b + 9) ⟨0, (encEd x).map .p⟩) (b + 10) ⟨0, [.p (.v (.string (mkS x.name)))]⟩) (b + 8) (rowB (ver + 1) (List.map encS l0 ++ [encS x.name]) T')) y = hh y := fun y hy => (upd_ne _ _ _ _ (show y ≠ b + 8 by omega)).trans ((upd_ne _ _ _ _ (show y ≠ b + 10 by omega)).trans (upd_ne _ _ _ _ (show y ≠ b + 9 by omega)))
      refine ⟨(by decide : 9 ≤ 11), s.ed.length - (i + 1), by omega, i + 1, by omega, rfl, LrM.cut ⟨_, b, ι, h, w, x0⟩ rfl hlow ⟨rfl, by exact Ecf @e3, by exact Ecf @e5, by exact Ecf @e6, by exact Ecf @e7, (g _ (by omega)).trans hd, (g _ (by omega)).trans h2, (g _ (by omega)).trans hV, fun id hid => (g id (by omega)).trans (ho id hid), hw.of (g _ (by omega)) (g _ (by omega)) (g _ (by omega)) (g _ (by omega)), ver + 1, cap', ?_, ?_⟩, by refine Evf @e77 ?_; exact cutV_win (by omega), by exact Ecf @e78, by exact Er, ?_⟩
      · rw [htk, List.length_append]; exact Er
      · rw [htk, List.map_append]; exact RowAt.new z1 z2
      · exact cutH_same (by omega) ((g _ (by omega)).trans a1) (lowCs_app (lowCs_p _ _) (lowCs_mono (Nat.zero_le _) a3))
    · refine Bff @hlt ?_
      refine AWP.exit ?_
      refine Ev ?_
      have hie : i = s.ed.length := by omega
      subst hie
      rw [List.take_length] at e4 hrow
      exact ⟨rfl, by exact Ecf @e3, by exact Ecf @e5, by exact Ecf @e6, by exact Ecf @e7, hd, h2, hV, ho, hw, ver, cap, by (first | (simp -implicitDefEqProofs only [go_sem, ↓reduceIte, Nat.reduceEqDiff, Nat.reduceAdd, Nat.reduceLT, Nat.reduceLeDiff, reduceCtorEq, Int.toNat_natCast, e4, allN]; first | done | rfl) | rfl), hrow⟩
  clear hM st
  rintro ⟨t, hh, n⟩ ⟨rfl, e3, e5, e6, e7, hd, h2, hV, ho, hw, ver, cap, e4, hrow⟩
  simp only at e3 e5 e6 e7 hd h2 hV ho hw e4 hrow
  have hokl : ∀ p ∈ allN s, chkN p = 0 := fun p hp => by
    rcases List.mem_append.1 hp with hp | hp
    · obtain ⟨f, hf, rfl⟩ := List.mem_map.1 hp
      exact mayF_chk (tabF_may (checkT_zero.1 o.t).2 f hf)
    · obtain ⟨x, hx, rfl⟩ := List.mem_map.1 hp
      exact mayE_chk (o.may x hx)
  obtain ⟨d, hdl⟩ := el_of (allN s) (fun p hp => .inr (hokl p hp))
  have hds : d.size = (allN s).length := by rw [← hdl, List.length_map, Array.length_toList]
  have hall : (allN s).length ≤ 600 := by unfold allN; rw [List.length_append, List.length_map, List.length_map]; omega
  obtain ⟨T, r1, r2, r3⟩ := hrow
  have hq : (allN s).map encS = d.toList.map PdSt.encQ := by rw [← hdl, List.map_map]; rfl
  rw [hq] at r1 r2
  rw [List.length_map, Array.length_toList] at r2
  rw [← hds] at e4
  have kP : PdSt.PdAt hh (b + 8) ver d T := ⟨r1, r3, by omega⟩
  have k1 := PdSt.sortFunc_ok cmpQ_stage swo_stage (b := b + 9) (cap := cap) kP (by omega)
  have hsz := PdSt.srtQ_size swo_stage d
  obtain ⟨d1, hd1⟩ : ∃ d1, PdSt.srtQ zS d = d1 := ⟨_, rfl⟩
  have hsrt := srtS_ok d
  unfold srtS at hsrt
  rw [hd1] at k1 hsz hsrt
  have g1 : ∀ y, y < b + 8 → (upd hh (b + 8) (PdSt.rowQ ver d1 T)) y = hh y := fun y hy => upd_ne _ _ _ _ (n8 y hy)
  have kP1 : PdSt.PdAt (upd hh (b + 8) (PdSt.rowQ ver d1 T)) (b + 8) ver d1 T := ⟨upd_same _ _ _, r3, by omega⟩
  have k2 := PdSt.compact_ok (b := b + 9) (cap := cap) kP1 (by omega) (by omega)
  rw [hsz] at k2
  refine Rgf @e4 (fun E K hE hK => ?_)
  refine Us k1 body_64 ?_
  refine hK _ _ _ ?_; clear hE hK K E
  refine Rgf @e4 (fun E K hE hK => ?_)
  refine CallR.use k2 body_67 ?_
  rintro _ h3 ⟨rfl, T2, t21, t22, rfl⟩
  obtain ⟨l2, hl2⟩ : ∃ l2, PdSt.cpt d1 d.size = l2 := ⟨_, rfl⟩
  have hl2n : l2.length ≤ d.size := by rw [← hl2]; exact (PdSt.cpt_len d1 d.size).1
  rw [hl2] at t22 hsrt ⊢
  have hh3 : upd (upd hh (b + 8) (PdSt.rowQ ver d1 T)) (b + 8) (rowB ver (List.map PdSt.encQ l2) T2) = upd hh (b + 8) (rowB ver (List.map PdSt.encQ l2) T2) := by
    funext y
    by_cases e : y = b + 8
    · subst e; rw [upd_same, upd_same]
    · rw [upd_ne _ _ _ _ e, upd_ne _ _ _ _ e, upd_ne _ _ _ _ e]
  rw [hh3]
  obtain ⟨hF, hhF⟩ : ∃ hF, upd hh (b + 8) (rowB ver (List.map PdSt.encQ l2) T2) = hF := ⟨_, rfl⟩
  have hFb : hF (b + 8) = some (rowB ver (List.map PdSt.encQ l2) T2) := by rw [← hhF]; exact upd_same _ _ _
  have hFo : ∀ y, y < b + 8 → hF y = hh y := fun y hy => by rw [← hhF]; exact upd_ne _ _ _ _ (n8 y hy)
  rw [hhF]
  clear hh3 hhF k1 k2 kP1 g1 r1 kP
  refine Evf (jn2 @e3 @e7) ?_
  have o3 : WhS s := ⟨by omega, o.ris, by omega, fun x hx => by have := mayE_data (o.may x hx); omega, fun x hx => mayE_chk (o.may x hx)⟩
  have hmem : ∀ v ∈ l2, chkN v.1 = 0 := fun v hv => by
    have := (hsrt.2 v).1 hv
    exact hokl v.1 (by rw [← hdl]; exact List.mem_map.2 ⟨v, this, rfl⟩)
  have hwh : ∀ p, whatS s3 p = whatS s p := fun p => what_of hed3 ht3
  have hfn : PdSt.FnAt 68 [.ptr (b + 1) 0 0, .ptr (b + 7) 0 0] (fun v => !isIn s dir v.1) l2 hF (b + 9) (b + 8) := fun h' b' hb' hhh v hv => by
    have e : ∀ y, y < b + 8 → h' y = hh y := fun y hy => (hhh y (by omega) (n8 y hy)).trans (hFo y hy)
    have o4 : WhS s3 := ⟨by rw [ht3]; exact o3.t, by rw [hed3]; exact o3.ris, by rw [hed3]; exact o3.ed, by rw [hed3]; exact o3.data, by rw [hed3]; exact o3.chk⟩
    have := slist1_ok o4 hdir (hmem v hv) (h := h') (X := b + 1) (V := b + 7) b' ((e _ (by omega)).trans hd) ((e _ (by omega)).trans hV) (hw.of (e _ (by omega)) (e _ (by omega)) (e _ (by omega)) (e _ (by omega))) (by omega) (by omega) (by omega) (by omega)
    have hi : isIn s3 dir v.1 = isIn s dir v.1 := by unfold isIn; rw [hwh]
    rw [hi] at this
    exact this
  have kP2 : PdSt.PdAt hF (b + 8) ver l2.toArray T2 := ⟨hFb, t21, by simp; omega⟩
  have k3 := PdSt.deleteO_ok 68 [.ptr (b + 1) 0 0, .ptr (b + 7) 0 0] (fun v => !isIn s dir v.1) (b := b + 9) (cap := cap) kP2 (by omega) body_68 (by simp [lowCs, lowC]) (by simp; omega) hfn
  rw [show l2.toArray.size = l2.length by simp, show l2.toArray.toList = l2 from rfl] at k3
  refine CallR.use k3 body_66 ?_
  rintro _ h4 ⟨rfl, T3, t31, t32, rfl⟩
  obtain ⟨l3, hl3⟩ : ∃ l3, (l2.filter fun v => !(fun v => !isIn s dir v.1) v) = l3 := ⟨_, rfl⟩
  rw [hl3] at t32 ⊢
  refine Ev ?_
  refine hK _ _ _ ?_; clear hE hK K E
  have hres : Ris nmQ (l3.map (·.1)) ∧ ∀ p, p ∈ l3.map (·.1) ↔ p ∈ allN s ∧ isIn s dir p = true := by
    constructor
    · refine hsrt.1.sub ?_
      rw [← hl3]
      exact (List.filter_sublist).map _
    · intro p
      rw [← hl3, ← hdl]
      simp only [List.mem_map, List.mem_filter, Bool.not_not]
      constructor
      · rintro ⟨v, ⟨hv, hi⟩, rfl⟩
        exact ⟨⟨v, (hsrt.2 v).1 hv, rfl⟩, hi⟩
      · rintro ⟨⟨v, hv, rfl⟩, hi⟩
        exact ⟨v, ⟨(hsrt.2 v).2 hv, hi⟩, rfl⟩
  obtain ⟨hG, hhG⟩ : ∃ hG, upd hF (b + 8) (rowB ver (List.map PdSt.encQ l3) T3) = hG := ⟨_, rfl⟩
  have hGb : hG (b + 8) = some (rowB ver (List.map PdSt.encQ l3) T3) := by rw [← hhG]; exact upd_same _ _ _
  have hGo : ∀ y, y < b + 8 → hG y = hh y := fun y hy => by rw [← hhG]; exact (upd_ne _ _ _ _ (n8 y hy)).trans (hFo y hy)
  rw [hhG]
  clear hhG k3 kP2 hfn hFb hFo hF
  have hw1 := hw.of (hGo (b + 3) (by omega)) (hGo (b + 4) (by omega)) (hGo (b + 5) (by omega)) (hGo (b + 6) (by omega))
  have hV1 := (hGo (b + 7) (by omega)).trans hV
  have h21 := (hGo (b + 2) (by omega)).trans h2
  have hl3q : List.map PdSt.encQ l3 = (l3.map (·.1)).map encS := by rw [List.map_map]; rfl
  have hl3n : l3.length = (l3.map (·.1)).length := by rw [List.length_map]
  rw [hl3q] at hGb
  rw [hl3n] at t32 ⊢
  obtain ⟨l4, hl4⟩ : ∃ l4, l3.map (·.1) = l4 := ⟨_, rfl⟩
  rw [hl4] at hGb t32 hres ⊢
  obtain ⟨ev, ec, nv, nc, dv, dc, w1, w2, w3, w4⟩ := hw1.w
  have nV2 : ¬ b + 7 = b + 2 := by omega
  have nW2 : ¬ b + 3 = b + 2 := by omega
  refine AWP.seqRegD [] [] [b + 2] mixed (by kernel_rfl) (by kernel_rfl) (fun K hK => .inl ?_) (by kernel_rfl); simp -implicitDefEqProofs only [go_sem, ↓reduceIte, Nat.reduceEqDiff, Nat.reduceAdd, Nat.reduceLT, Nat.reduceLeDiff, reduceCtorEq, Int.toNat_natCast, e5, e7, hV1, w1, h21, nV2, nW2]
  refine ⟨?_, sub_at _ h21, ?_⟩
  · obtain ⟨T5, x1, _⟩ := w2
    obtain ⟨T6, y1, _⟩ := w3
    obtain ⟨T7, z1, _⟩ := w4
    rw [x1, y1, z1]; simp [rowB]
  refine hK _ _ _ ?_; clear hK K
  have nr : ∀ x y, x < y → ¬ b + x = b + y := fun x y hxy => by omega
  have nr' : ∀ x y, y < x → ¬ b + x = b + y := fun x y hxy => by omega
  refine AWP.frzAt (b + 2) 2 (gb := ⟨0, [.p (.v (.int .u64 s3.gen)), .p (.sl 6 (s3.t.map encF)), .win (b + 4) ev 0 s3.ed.length ec, .win (b + 5) nv 0 s3.names.length nc, .win (b + 6) dv 0 s3.dirs.length dc]⟩) (upd_same _ _ _) rfl (w2.ne (nr' 4 2 (by omega))) (okEs_ed s3.ed) (by rw [List.length_map]) (nr 2 4 (by omega)) ?_
  refine AWP.frzAt (b + 2) 3 (gb := ⟨0, [.p (.v (.int .u64 s3.gen)), .p (.sl 6 (s3.t.map encF)), .p (.sl 5 (s3.ed.map encEd)), .win (b + 5) nv 0 s3.names.length nc, .win (b + 6) dv 0 s3.dirs.length dc]⟩) (upd_same _ _ _) rfl (((w3.ne (nr' 5 2 (by omega))).del (nr' 5 4 (by omega))).ne (nr' 5 2 (by omega))) (okEs_str s3.names) (by rw [List.length_map]) (nr 2 5 (by omega)) ?_
  refine AWP.frzAt (b + 2) 4 (gb := ⟨0, [.p (.v (.int .u64 s3.gen)), .p (.sl 6 (s3.t.map encF)), .p (.sl 5 (s3.ed.map encEd)), .p (.sl 1 (s3.names.map encS)), .win (b + 6) dv 0 s3.dirs.length dc]⟩) (upd_same _ _ _) rfl (((((w4.ne (nr' 6 2 (by omega))).del (nr' 6 4 (by omega))).ne (nr' 6 2 (by omega))).del (nr' 6 5 (by omega))).ne (nr' 6 2 (by omega))) (okEs_str s3.dirs) (by rw [List.length_map]) (nr 2 6 (by omega)) ?_
  have hrG : RowAt hG (b + 8) ver cap 1 (l4.map encS) := ⟨T3, hGb, by rw [List.length_map]; omega, t31⟩
  refine AWP.frzRow 4 (by exact Er) (((((((hrG.ne (nr' 8 2 (by omega))).del (nr' 8 4 (by omega))).ne (nr' 8 2 (by omega))).del (nr' 8 5 (by omega))).ne (nr' 8 2 (by omega))).del (nr' 8 6 (by omega))).ne (nr' 8 2 (by omega))) (okEs_str l4) (by rw [List.length_map]) ?_
  refine AWP.ret ?_
  have dn : ∀ (hh : Heap) (x y : Nat), x < b → b ≤ y → delH hh y x = hh x := fun hh x y hx hy => delH_ne _ _ _ (by omega)
  have un : ∀ (hh : Heap) (x y : Nat) (B : Blk), x < b → b ≤ y → upd hh y B x = hh x := fun hh x y B hx hy => upd_ne _ _ _ _ (by omega)
  refine Ends.pure hn H (fun id hid => ?_) (r0 := .tup [ListV l4, SgV s3, IntV 0]) (by rw [show Tryz.f25.results.toList = [.tmp 4, .cell 5 63, .tmp 6] from rfl]; (first | (simp -implicitDefEqProofs only [go_sem, ↓reduceIte, Nat.reduceEqDiff, Nat.reduceAdd, Nat.reduceLT, Nat.reduceLeDiff, reduceCtorEq, Int.toNat_natCast, e5, nr 2 8 (by omega), nr 2 6 (by omega), delH]; first | done | rfl) | rfl)) (frz_tup3 (.p _) (frz_psS _) (.v _)) ⟨rfl, l4, by rw [hls], fun q => absurd (by rw [hls]) q, fun _ => hres⟩
  have hid' : id < b := hid
  exact (dn _ _ _ hid' (by omega)).trans ((un _ _ _ _ hid' (by omega)).trans ((dn _ _ _ hid' (by omega)).trans ((un _ _ _ _ hid' (by omega)).trans ((dn _ _ _ hid' (by omega)).trans ((un _ _ _ _ hid' (by omega)).trans ((dn _ _ _ hid' (by omega)).trans ((un _ _ _ _ hid' (by omega)).trans ((hGo id (by omega)).trans (ho id hid')))))))))
end Go.Proofs.YtihgnpboabpchaaGreatDoor
namespace Go.Proofs.YtihgnpboabpchaaGreatDoor
set_option linter.unusedSimpArgs false
set_option linter.unusedVariables false
set_option linter.unnecessarySimpa false
open Go Am
set_option maxRecDepth 100000
def sgEqI (l m : List S) (h : Heap) (b i : Nat) (st : St) : Prop :=
  (∀ id, id < b → st.h id = h id) ∧ st.t 0 = ListV l ∧ st.t 1 = ListV m ∧ st.t 12 = IntV l.length ∧ st.t 13 = IntV (i : Nat) ∧ l.take i = m.take i
theorem sgEq_ok (l m : List S) (hl : l.length ≤ 1000000) (h : Heap) (b : Nat) :
    ACalls Tryz.prog 50 [ListV l, ListV m] h b 0 (fun r h' => r = BoolV (decide (l = m)) ∧ h' = h) := by
  refine ACalls.enter Tryz.func50 rfl (by simp [Tryz.ntmps50]) (fun ι w hn H => ?_)
  have hlow := H.lowCells
  have hlm : (l.map encS).length = l.length := List.length_map _
  have hmm : (m.map encS).length = m.length := List.length_map _
  have fin : ∀ (t : Nat → AV) (hh : Heap) (n : Nat) (v : Bool), t 4 = BoolV v → (∀ id, id < b → hh id = h id) → v = decide (l = m) → Am.Ends Tryz.prog ⟨Tryz.f50.ntmps, b, ι, h, w, x0⟩ Tryz.f50 0 (fun r h' => r = BoolV (decide (l = m)) ∧ h' = h) ⟨t, hh, n⟩ := by
    intro t hh n v ht ho hv
    exact Ends.pure hn H ho (r0 := BoolV v) (by rw [show Tryz.f50.results.toList = [.tmp 4] from rfl]; exact Ecf @ht) (.v _) ⟨by rw [hv], rfl⟩
  refine Rk ?_
  refine AWP.seq ?_
  by_cases hlen : (l.length : Int) = m.length
  case neg =>
    refine Rkf (jn3 @hlm @hmm @hlen) ?_
    refine Bt ?_
    refine Rk ?_
    refine AWP.ret ?_
    refine Ev ?_
    exact fin _ _ _ false (by exact Er) (fun _ _ => rfl) (decide_eq_false (fun e => hlen (by rw [e]))).symm
  refine Rkf (jn3 @hlm @hmm @hlen) ?_
  refine Bs ?_
  refine AWP.seq ?_
  refine Rkf @hlm ?_
  refine AWP.block ?_
  refine AWP.loopM 0 (fun k st => ∃ i, i ≤ l.length ∧ k = l.length - i ∧ sgEqI l m h b i st) l.length rfl ⟨0, Nat.zero_le _, rfl, Ou, by exact Er, by exact Er, by exact Er, by exact Er, rfl⟩ ?_
  rintro k ⟨t, hh, n⟩ ⟨i, hi, rfl, ho, e0, e1, e12, e13, hx⟩ hn1
  simp only at ho e0 e1 e12 e13 hn1
  subst hn1
  refine Rkf (jn2 @e12 @e13) ?_
  refine AWP.seq ?_
  by_cases hlt : (i : Int) < l.length
  · have hw1 : IntKind.i64.wrap ((i : Int) + 1) = ((i + 1 : Nat) : Int) := by rw [wrap_i64 (by omega) (by omega)]; rfl
    have hi2 : i < l.length := by omega
    have hi3 : i < m.length := by omega
    have hltm : (i : Int) < m.length := by omega
    have hge : (l.map encS).getD i [] = encS l[i] := getD_map encS l i hi2
    have hgm : (m.map encS).getD i [] = encS m[i] := getD_map encS m i hi3
    obtain ⟨x, hf⟩ : ∃ f, l[i] = f := ⟨_, rfl⟩
    obtain ⟨y, hgy⟩ : ∃ g, m[i] = g := ⟨_, rfl⟩
    rw [hf] at hge
    rw [hgy] at hgm
    refine Btf @hlt ?_
    refine AWP.skip ?_
    refine Ev ?_
    refine AWP.seq ?_
    refine AWP.block ?_
    refine Rgf @e13 (fun E K hE hK => ?_)
    refine hK _ _ _ ?_; clear hE hK K E
    have ht1 : l.take (i + 1) = l.take i ++ [x] := by rw [List.take_add_one, List.getElem?_eq_getElem hi2, hf]; rfl
    have ht2 : m.take (i + 1) = m.take i ++ [y] := by rw [List.take_add_one, List.getElem?_eq_getElem hi3, hgy]; rfl
    by_cases hs : x = y
    · have hs' : (x = y) = True := eq_true hs
      refine AWP.seqRegD [] [] [] mixed (by kernel_rfl) (by kernel_rfl) (fun K hK => .inl ?_) (by kernel_rfl); simp -implicitDefEqProofs only [go_sem, ↓reduceIte, Nat.reduceEqDiff, Nat.reduceAdd, Nat.reduceLT, Nat.reduceLeDiff, reduceCtorEq, Int.toNat_natCast, e0, e1, hlm, hmm, hlt, hltm, hge, hgm, encS, mkS_list, hs', decide_true]
      refine ⟨by omega, by omega, ?_⟩
      refine hK _ _ _ ?_; clear hK K
      refine Bf ?_
      refine AWP.skip ?_
      refine Ev ?_
      refine Raf (jn2 @e13 @hw1) (fun E K hE hK => ?_); refine hK _ _ _ ?_; clear hE hK K E
      exact ⟨l.length - (i + 1), by omega, i + 1, by omega, rfl, cutH_outer (Nat.le_refl _) (Ouf @ho) hlow, by exact Ecf @e0, by exact Ecf @e1, by exact Ecf @e12, by exact Er, by rw [ht1, ht2, hx, hs]⟩
    · have hs' : (x = y) = False := eq_false hs
      refine AWP.seqRegD [] [] [] mixed (by kernel_rfl) (by kernel_rfl) (fun K hK => .inl ?_) (by kernel_rfl); simp -implicitDefEqProofs only [go_sem, ↓reduceIte, Nat.reduceEqDiff, Nat.reduceAdd, Nat.reduceLT, Nat.reduceLeDiff, reduceCtorEq, Int.toNat_natCast, e0, e1, hlm, hmm, hlt, hltm, hge, hgm, encS, mkS_list, hs', decide_false]
      refine ⟨by omega, by omega, ?_⟩
      refine hK _ _ _ ?_; clear hK K
      refine Bt ?_
      refine Rk ?_
      refine AWP.ret ?_
      refine Ev ?_
      exact fin _ _ _ false (by exact Er) (Ouf @ho) (decide_eq_false (fun e => hs (by
        have : l[i]? = m[i]? := by rw [e]
        rw [List.getElem?_eq_getElem hi2, List.getElem?_eq_getElem hi3, hf, hgy] at this
        injection this))).symm
  · refine Bff @hlt ?_
    refine AWP.exit ?_
    refine Ev ?_
    refine Rk ?_
    refine AWP.ret ?_
    refine fin _ _ _ true (by exact Er) ho ?_
    have h1 : i = l.length := by omega
    have h2 : i = m.length := by omega
    rw [h1, List.take_length, show l.length = m.length by omega, List.take_length] at hx
    exact (decide_eq_true hx).symm
def sgNmI (l m : List S) (h : Heap) (b i : Nat) (st : St) : Prop :=
  (∀ id, id < b → st.h id = h id) ∧ st.t 0 = ListV l ∧ st.t 1 = ListV m ∧ st.t 12 = IntV l.length ∧ st.t 13 = IntV (i : Nat) ∧ l.take i = m.take i
theorem sgNm_ok (l m : List S) (hl : l.length ≤ 1000000) (h : Heap) (b : Nat) :
    ACalls Tryz.prog 29 [ListV l, ListV m] h b 0 (fun r h' => r = BoolV (decide (l = m)) ∧ h' = h) := by
  refine ACalls.enter Tryz.func29 rfl (by simp [Tryz.ntmps29]) (fun ι w hn H => ?_)
  have hlow := H.lowCells
  have hlm : (l.map encS).length = l.length := List.length_map _
  have hmm : (m.map encS).length = m.length := List.length_map _
  have fin : ∀ (t : Nat → AV) (hh : Heap) (n : Nat) (v : Bool), t 4 = BoolV v → (∀ id, id < b → hh id = h id) → v = decide (l = m) → Am.Ends Tryz.prog ⟨Tryz.f29.ntmps, b, ι, h, w, x0⟩ Tryz.f29 0 (fun r h' => r = BoolV (decide (l = m)) ∧ h' = h) ⟨t, hh, n⟩ := by
    intro t hh n v ht ho hv
    exact Ends.pure hn H ho (r0 := BoolV v) (by rw [show Tryz.f29.results.toList = [.tmp 4] from rfl]; exact Ecf @ht) (.v _) ⟨by rw [hv], rfl⟩
  refine Rk ?_
  refine AWP.seq ?_
  by_cases hlen : (l.length : Int) = m.length
  case neg =>
    refine Rkf (jn3 @hlm @hmm @hlen) ?_
    refine Bt ?_
    refine Rk ?_
    refine AWP.ret ?_
    refine Ev ?_
    exact fin _ _ _ false (by exact Er) (fun _ _ => rfl) (decide_eq_false (fun e => hlen (by rw [e]))).symm
  refine Rkf (jn3 @hlm @hmm @hlen) ?_
  refine Bs ?_
  refine AWP.seq ?_
  refine Rkf @hlm ?_
  refine AWP.block ?_
  refine AWP.loopM 0 (fun k st => ∃ i, i ≤ l.length ∧ k = l.length - i ∧ sgNmI l m h b i st) l.length rfl ⟨0, Nat.zero_le _, rfl, Ou, by exact Er, by exact Er, by exact Er, by exact Er, rfl⟩ ?_
  rintro k ⟨t, hh, n⟩ ⟨i, hi, rfl, ho, e0, e1, e12, e13, hx⟩ hn1
  simp only at ho e0 e1 e12 e13 hn1
  subst hn1
  refine Rkf (jn2 @e12 @e13) ?_
  refine AWP.seq ?_
  by_cases hlt : (i : Int) < l.length
  · have hw1 : IntKind.i64.wrap ((i : Int) + 1) = ((i + 1 : Nat) : Int) := by rw [wrap_i64 (by omega) (by omega)]; rfl
    have hi2 : i < l.length := by omega
    have hi3 : i < m.length := by omega
    have hltm : (i : Int) < m.length := by omega
    have hge : (l.map encS).getD i [] = encS l[i] := getD_map encS l i hi2
    have hgm : (m.map encS).getD i [] = encS m[i] := getD_map encS m i hi3
    obtain ⟨x, hf⟩ : ∃ f, l[i] = f := ⟨_, rfl⟩
    obtain ⟨y, hgy⟩ : ∃ g, m[i] = g := ⟨_, rfl⟩
    rw [hf] at hge
    rw [hgy] at hgm
    refine Btf @hlt ?_
    refine AWP.skip ?_
    refine Ev ?_
    refine AWP.seq ?_
    refine AWP.block ?_
    refine Rgf @e13 (fun E K hE hK => ?_)
    refine hK _ _ _ ?_; clear hE hK K E
    have ht1 : l.take (i + 1) = l.take i ++ [x] := by rw [List.take_add_one, List.getElem?_eq_getElem hi2, hf]; rfl
    have ht2 : m.take (i + 1) = m.take i ++ [y] := by rw [List.take_add_one, List.getElem?_eq_getElem hi3, hgy]; rfl
    by_cases hs : x = y
    · have hs' : (x = y) = True := eq_true hs
      refine AWP.seqRegD [] [] [] mixed (by kernel_rfl) (by kernel_rfl) (fun K hK => .inl ?_) (by kernel_rfl); simp -implicitDefEqProofs only [go_sem, ↓reduceIte, Nat.reduceEqDiff, Nat.reduceAdd, Nat.reduceLT, Nat.reduceLeDiff, reduceCtorEq, Int.toNat_natCast, e0, e1, hlm, hmm, hlt, hltm, hge, hgm, encS, mkS_list, hs', decide_true]
      refine ⟨by omega, by omega, ?_⟩
      refine hK _ _ _ ?_; clear hK K
      refine Bf ?_
      refine AWP.skip ?_
      refine Ev ?_
      refine Raf (jn2 @e13 @hw1) (fun E K hE hK => ?_); refine hK _ _ _ ?_; clear hE hK K E
      exact ⟨l.length - (i + 1), by omega, i + 1, by omega, rfl, cutH_outer (Nat.le_refl _) (Ouf @ho) hlow, by exact Ecf @e0, by exact Ecf @e1, by exact Ecf @e12, by exact Er, by rw [ht1, ht2, hx, hs]⟩
    · have hs' : (x = y) = False := eq_false hs
      refine AWP.seqRegD [] [] [] mixed (by kernel_rfl) (by kernel_rfl) (fun K hK => .inl ?_) (by kernel_rfl); simp -implicitDefEqProofs only [go_sem, ↓reduceIte, Nat.reduceEqDiff, Nat.reduceAdd, Nat.reduceLT, Nat.reduceLeDiff, reduceCtorEq, Int.toNat_natCast, e0, e1, hlm, hmm, hlt, hltm, hge, hgm, encS, mkS_list, hs', decide_false]
      refine ⟨by omega, by omega, ?_⟩
      refine hK _ _ _ ?_; clear hK K
      refine Bt ?_
      refine Rk ?_
      refine AWP.ret ?_
      refine Ev ?_
      exact fin _ _ _ false (by exact Er) (Ouf @ho) (decide_eq_false (fun e => hs (by
        have : l[i]? = m[i]? := by rw [e]
        rw [List.getElem?_eq_getElem hi2, List.getElem?_eq_getElem hi3, hf, hgy] at this
        injection this))).symm
  · refine Bff @hlt ?_
    refine AWP.exit ?_
    refine Ev ?_
    refine Rk ?_
    refine AWP.ret ?_
    refine fin _ _ _ true (by exact Er) ho ?_
    have h1 : i = l.length := by omega
    have h2 : i = m.length := by omega
    rw [h1, List.take_length, show l.length = m.length by omega, List.take_length] at hx
    exact (decide_eq_true hx).symm
theorem oneX_refl (x : Ed) : oneX x x = true := by unfold oneX; simp
theorem ssame_ok (s : Sg) (z : SzS s) (h : Heap) (b : Nat) : ACalls Tryz.prog 37 [SgV s, SgV s] h b 0 (fun r h' => r = BoolV true ∧ h' = h) := by
  refine ACalls.enter Tryz.func37 rfl (by simp [Tryz.ntmps37]) (fun ι w hn H => ?_)
  have k1 := tSameG_ok s.t s.t (by have := z.t; omega)
  have e1 : sameL keyR s.t s.t = true := sameL_refl keyR s.t
  rw [e1] at k1
  have k2 := eqf_ed_ok 91 oneX s.ed s.ed (by have := z.ed; omega)
  rw [allQ_refl (fun x _ => oneX_refl x)] at k2
  have k3 := sgEq_ok s.names s.names (by have := z.nm; omega)
  have k4 := sgEq_ok s.dirs s.dirs (by have := z.dr; omega)
  rw [decide_eq_true rfl] at k3 k4
  refine Rk ?_
  refine AWP.seqReg (by kernel_rfl) (fun E K hE hK => ?_); simp -implicitDefEqProofs only [go_sem, ↓reduceIte, Nat.reduceEqDiff, Nat.reduceAdd, Nat.reduceLT, Nat.reduceLeDiff, reduceCtorEq, Int.toNat_natCast, encSg]
  refine Us (k1 _ _) body_89 ?_
  refine Us (k2 _ _ body_91 (fun x _ y _ h b => sone_ok x y h b)) body_90 ?_
  refine Us (k3 _ _) body_50 ?_
  refine Us (k4 _ _) body_50 ?_
  refine hK _ _ _ ?_; clear hE hK K E
  refine AWP.ret ?_
  exact Ends.pure hn H Ou (r0 := BoolV true) (by rw [show Tryz.f37.results.toList = [.tmp 4] from rfl]; exact Er) (.v _) ⟨rfl, rfl⟩
end Go.Proofs.YtihgnpboabpchaaGreatDoor
namespace Go.Proofs.YtihgnpboabpchaaGreatDoor
set_option linter.unusedSimpArgs false
set_option linter.unusedVariables false
set_option linter.unnecessarySimpa false
open Go Am
set_option maxRecDepth 100000
theorem del_c {s : Sg} {p : S} {how : Int} {m : Sg} {e : Int} (z : SzS s) (hv : delS keyR s p = (how, m, e)) (h : Heap) (b : Nat) : ACalls Tryz.prog 33 [.agg (SgL s), StrV p] h b 0 (fun r h' => r = .tup [IntV how, .agg (SgL m), IntV e] ∧ h' = h) := by
  have := sdel_ok s p z h b
  rwa [hv] at this
theorem lst_c {s : Sg} {dir : S} {m : Sg} {e : Int} (z : SzS s) (hv : lstS keyR s dir = (m, e)) (h : Heap) (b : Nat) : ACalls Tryz.prog 25 [.agg (SgL s), StrV dir] h b 0 (fun r h' => (∃ l, r = .tup [ListV l, .agg (SgL m), IntV e]) ∧ h' = h) := by
  refine (slist_ok s dir z h b).mono ?_
  rintro r h' ⟨h1, l, h2, _⟩
  rw [hv] at h2
  exact ⟨⟨l, h2⟩, h1⟩
theorem put_names {s m : Sg} {p d : S} {r : Nat} (h : putS keyR s p r d = (m, 0)) : m.names = s.names := by
  obtain ⟨_, _, _, _, h5⟩ := put_inv h
  rw [h5, edit_same.2.1]
theorem seeS_inv {s m : Sg} {p : S} {x : Ed} (h : seeS keyR s p = (x, m, 0)) : StOK keyR s ∧ chkN p = 0 ∧ ∃ na, m = { s with names := na } ∧ p ∈ na ∧ (∀ q ∈ s.names, q ∈ na) ∧ (readS s 0 p).1.names = na := by
  obtain ⟨o, hp, hr, _, rfl⟩ := see_inv h
  refine ⟨o, hp, (readS s 0 p).1.names, by rw [readS_put], ?_, fun q hq => ?_, rfl⟩
  · obtain ⟨x, hx⟩ := Option.isSome_iff_exists.1 (read_in o.nris hr)
    have e : x = p := (getK_mem hx).2
    have h1 := (getK_mem hx).1
    rw [e] at h1; exact h1
  · obtain ⟨x, hx⟩ := Option.isSome_iff_exists.1 (read_keep (e := 0) (p := p) o.nris (q := q) (by rw [getK_of o.nris hq rfl]; rfl))
    have e : x = q := (getK_mem hx).2
    have h1 := (getK_mem hx).1
    rw [e] at h1; exact h1
structure LrS (s : Sg) (dir : S) (h : Heap) (b : Nat) (st : St) : Prop where
  ho : ∀ id, id < b → st.h id = h id
  hB : st.h b = some ⟨0, SgL s⟩
  e2 : st.t 2 = StrV dir
  e3 : st.t 3 = .one (.ptr b 0 0)
  e7 : st.t 7 = BoolV true
theorem LrS.cut {s : Sg} {dir : S} {h : Heap} {b : Nat} {st : St} (C : Ctx) (hC : C.b = b) (hlow : ∀ id blk, h id = some blk → ∀ c ∈ blk.cells, lowC b c = true) (k : LrS s dir h b st) : LrS s dir h b (st.cut C 1) := by
  subst hC
  obtain ⟨t, hh, n⟩ := st
  obtain ⟨h1, h2, h3, h4, h5⟩ := k
  simp only at h1 h2 h3 h4 h5
  refine ⟨cutH_outer (by omega) h1 hlow, cutH_same (by omega) h2 rfl, ?_, ?_, ?_⟩
  · show cutV _ (t 2) = _; rw [h3]; rfl
  · show cutV _ (t 3) = _; rw [h4]; exact cutV_ptr (by omega)
  · show cutV _ (t 7) = _; rw [h5]; rfl
theorem lreads_ok (s : Sg) (p dir : S) (ht : s.t.length ≤ 9223372036854775807) (hl : s.ed.length ≤ 9223372036854775807) (hn1 : s.names.length ≤ 9223372036854775807) (hd1 : s.dirs.length ≤ 9223372036854775807) (h : Heap) (b : Nat) :
    ACalls Tryz.prog 10 [SgV s, StrV p, StrV dir] h b 0 (fun r h' => r = BoolV true ∧ h' = h) := by
  refine ACalls.enter Tryz.func10 rfl (by simp [Tryz.ntmps10]) (fun ι w hn H => ?_)
  have hlow := H.lowCells
  have fin : ∀ (t : Nat → AV) (hh : Heap) (n : Nat), t 6 = BoolV true → (∀ id, id < b → hh id = h id) → Am.Ends Tryz.prog ⟨Tryz.f10.ntmps, b, ι, h, w, x0⟩ Tryz.f10 0 (fun r h' => r = BoolV true ∧ h' = h) ⟨t, hh, n⟩ := by
    intro t hh n ht ho
    exact Ends.pure hn H ho (r0 := BoolV true) (by rw [show Tryz.f10.results.toList = [.tmp 6] from rfl]; exact Ecf @ht) (.v _) ⟨rfl, rfl⟩
  refine Rk ?_
  refine Rg (fun E K hE hK => ?_)
  refine Us (slive_ok _ _) body_20 ?_
  refine hK _ _ _ ?_; clear hE hK K E
  refine AWP.seq ?_
  cases c0 : fewS s
  · refine Rg (fun E K hE hK => ?_)
    refine Us (sFew_ok s ht hl hn1 hd1 _ _) body_21 ?_
    refine Evf @c0 ?_
    refine hK _ _ _ ?_; clear hE hK K E
    refine Bt ?_
    refine Rk ?_
    refine AWP.ret ?_
    refine Ev ?_
    exact fin _ _ _ (by exact Er) Ou
  have z := fewS_sz c0
  by_cases c1 : (200 : Int) < p.length
  · refine Rg (fun E K hE hK => ?_)
    refine Us (sFew_ok s ht hl hn1 hd1 _ _) body_21 ?_
    refine Evf (jn3 @c0 @mkS_size @c1) ?_
    refine hK _ _ _ ?_; clear hE hK K E
    refine Bt ?_
    refine Rk ?_
    refine AWP.ret ?_
    refine Ev ?_
    exact fin _ _ _ (by exact Er) Ou
  by_cases c2 : (200 : Int) < dir.length
  · refine Rg (fun E K hE hK => ?_)
    refine Us (sFew_ok s ht hl hn1 hd1 _ _) body_21 ?_
    refine Evf (jn4 @c0 @mkS_size @c1 @c2) ?_
    refine hK _ _ _ ?_; clear hE hK K E
    refine Bt ?_
    refine Rk ?_
    refine AWP.ret ?_
    refine Ev ?_
    exact fin _ _ _ (by exact Er) Ou
  refine Rg (fun E K hE hK => ?_)
  refine Us (sFew_ok s ht hl hn1 hd1 _ _) body_21 ?_
  refine Evf (jn4 @c0 @mkS_size @c1 @c2) ?_
  refine hK _ _ _ ?_; clear hE hK K E
  refine Bs ?_
  obtain ⟨⟨x, a, e⟩, hv⟩ : ∃ v, seeS keyR s p = v := ⟨_, rfl⟩
  refine AWP.seqReg (by kernel_rfl) (fun E K hE hK => ?_); simp -implicitDefEqProofs only [go_sem, ↓reduceIte, Nat.reduceEqDiff, Nat.reduceAdd, Nat.reduceLT, Nat.reduceLeDiff, reduceCtorEq, Int.toNat_natCast, encSg]
  refine Us (see_c z hv _ _) body_23 ?_
  refine hK _ _ _ ?_; clear hE hK K E
  refine Am.AWP.midC 1 (LrS s dir h b) ?_ ?_
  · by_cases he : e = 0
    · subst he
      have hs' : seeS keyR s p = (x, a, 0) := hv
      obtain ⟨o, hp, na, rfl, hpna, hqna, hna⟩ := seeS_inv hs'
      refine Rk ?_
      refine Bt ?_
      refine Rk ?_
      refine Rk ?_
      have hnl : na.length ≤ 1024 := by
        have := (o.read (e := 0) hp).nlen
        rwa [hna] at this
      have hln : (s.names.map encS).length = s.names.length := List.length_map _
      have hld : (s.dirs.map encS).length = s.dirs.length := List.length_map _
      have hdn : decide (p ∈ na) = true := decide_eq_true hpna
      refine AWP.seq ?_
      have kin := sin_ok na p (by omega)
      rw [hdn] at kin
      refine Rg (fun E K hE hK => ?_)
      refine Us (kin _ _) body_36 ?_
      refine Us (ssame_ok s z _ _) body_37 ?_
      refine hK _ _ _ ?_; clear hE hK K E
      refine Bs ?_
      refine AWP.seq ?_
      refine Rkf @hln ?_
      refine AWP.block ?_
      refine AWP.loopM 4 (fun m st => ∃ i, i ≤ s.names.length ∧ m = s.names.length - i ∧ LrS s dir h b st ∧ st.h (b + 2) = some ⟨0, SgL { s with names := na }⟩ ∧ st.t 1 = StrV p ∧ st.t 9 = .one (.ptr (b + 2) 0 0) ∧ st.t 76 = ListV s.names ∧ st.t 77 = IntV s.names.length ∧ st.t 78 = IntV i) s.names.length rfl ⟨0, Nat.zero_le _, rfl, ⟨Ou, by exact Er, by exact Er, by exact Er, by exact Er⟩, by exact Er, by exact Er, by exact Er, by exact Er, by exact Er, by exact Er⟩ ?_
      rintro m ⟨t, hh, n⟩ ⟨i, hi, rfl, hL, hA, e1, e9, e76, e77, e78⟩ hn1
      have hL0 := hL
      obtain ⟨ho, hB, e2, e3, e7⟩ := hL0
      simp only at ho hB e2 e3 e7 hA e1 e9 e76 e77 e78 hn1
      subst hn1
      refine Rkf (jn2 @e77 @e78) ?_
      refine AWP.seq ?_
      by_cases hlt : (i : Int) < s.names.length
      · have w9 := PdSt.w_add1 (a := i) (by have := z.nm; omega)
        have hi2 : i < s.names.length := by omega
        have hge : (s.names.map encS).getD i [] = encS s.names[i] := getD_map encS s.names i hi2
        obtain ⟨q, hq⟩ : ∃ q, s.names[i] = q := ⟨_, rfl⟩
        have hqn : decide (q ∈ na) = true := decide_eq_true (hqna q (by rw [← hq]; exact List.getElem_mem hi2))
        rw [hq] at hge
        refine Btf @hlt ?_
        refine AWP.skip ?_
        refine Ev ?_
        refine AWP.seq ?_
        refine AWP.block ?_
        refine AWP.seqReg (by kernel_rfl) (fun E K hE hK => ?_); simp -implicitDefEqProofs only [go_sem, ↓reduceIte, Nat.reduceEqDiff, Nat.reduceAdd, Nat.reduceLT, Nat.reduceLeDiff, reduceCtorEq, Int.toNat_natCast, e76, e78, hln, hlt, hge, encS]
        repeat (refine ⟨by omega, ?_⟩)
        refine hK _ _ _ ?_; clear hE hK K E
        have kin := sin_ok na q (by omega)
        rw [hqn] at kin
        refine Rgf (jn2 @e9 @hA) (fun E K hE hK => ?_)
        refine Us (kin _ _) body_36 ?_
        refine hK _ _ _ ?_; clear hE hK K E
        refine Bs ?_
        refine Raf (jn2 @e78 @w9) (fun E K hE hK => ?_); refine hK _ _ _ ?_; clear hE hK K E
        exact ⟨Nat.le_refl _, s.names.length - (i + 1), by omega, i + 1, by omega, rfl, ⟨cutH_outer (show b ≤ b + 4 by omega) ho hlow, cutH_same (show b < b + 4 by omega) hB rfl, by exact Ecf @e2, by refine Evf @e3 ?_; exact cutV_ptr (show b < b + 4 by omega), by exact Ecf @e7⟩, cutH_same (show b + 2 < b + 4 by omega) hA rfl, by exact Ecf @e1, by refine Evf @e9 ?_; exact cutV_ptr (show b + 2 < b + 4 by omega), by exact Ecf @e76, by exact Ecf @e77, by exact Er⟩
      · refine Bff @hlt ?_
        refine AWP.exit ?_
        refine Ev ?_
        obtain ⟨⟨how, c, f⟩, hvd⟩ : ∃ v, delS keyR s p = v := ⟨_, rfl⟩
        refine Rgf (jn3 @hB @e1 @e3) (fun E K hE hK => ?_)
        refine Us (del_c z hvd _ _) body_33 ?_
        refine hK _ _ _ ?_; clear hE hK K E
        have nb4 : ¬ b = b + 4 := by omega
        have n24 : ¬ b + 2 = b + 4 := by omega
        refine Am.AWP.mid (fun st => (∀ id, id < b → st.h id = h id) ∧ st.h b = some ⟨0, SgL s⟩ ∧ st.t 1 = StrV p ∧ st.t 2 = StrV dir ∧ st.t 3 = .one (.ptr b 0 0) ∧ st.t 7 = BoolV true ∧ st.n = 5) ?_ ?_
        · by_cases hf : f = 0
          · subst hf
            have hcn : c.names = na := (del_inv hvd).2.2.2.trans hna
            have kn := sgNm_ok na na (by omega)
            rw [decide_eq_true rfl] at kn
            refine Rgf (jn4 @e9 @hA @n24 @hcn) (fun E K hE hK => ?_)
            refine Us (kn _ _) body_29 ?_
            refine hK _ _ _ ?_; clear hE hK K E
            refine Bf ?_
            refine AWP.skip ?_
            exact ⟨(Ouf @ho), by exact Erf (jn2 @nb4 @hB), by exact Ecf @e1, by exact Ecf @e2, by exact Ecf @e3, by exact Ecf @e7, rfl⟩
          · have c' : (f = 0) = False := eq_false hf
            refine Rkf @c' ?_
            refine Bf ?_
            refine AWP.skip ?_
            exact ⟨(Ouf @ho), by exact Erf (jn2 @nb4 @hB), by exact Ecf @e1, by exact Ecf @e2, by exact Ecf @e3, by exact Ecf @e7, rfl⟩
        clear ho hB hA e1 e2 e3 e7 e9 e76 e77 e78 hL hh t
        rintro ⟨t, hh, n⟩ ⟨ho, hB, e1, e2, e3, e7, rfl⟩
        simp only at ho hB e1 e2 e3 e7
        obtain ⟨⟨m, f⟩, hvp⟩ : ∃ v, putS keyR s p 0 [] = v := ⟨_, rfl⟩
        have kp := fun h b => (put_c (d := []) z (by simp) hvp h b).argNil (args := [.agg (SgL s), StrV p, FltV 0, .one (.p (.v (.slice none 0 0)))]) ⟨lessV.refl _, lessV.refl _, lessV.refl _, .nil 1, trivial⟩
        have nb5 : ¬ b = b + 5 := by omega
        refine Rgf (jn3 @hB @e1 @e3) (fun E K hE hK => ?_)
        refine Us (kp _ _) body_32 ?_
        refine hK _ _ _ ?_; clear hE hK K E
        by_cases hf : f = 0
        · subst hf
          have hmn : m.names = s.names := put_names hvp
          have kn := sgNm_ok s.names s.names (by have := z.nm; omega)
          rw [decide_eq_true rfl] at kn
          refine Rgf (jn4 @hB @e3 @nb5 @hmn) (fun E K hE hK => ?_)
          refine Us (kn _ _) body_29 ?_
          refine hK _ _ _ ?_; clear hE hK K E
          refine Bf ?_
          refine AWP.skip ?_
          exact ⟨(by decide : 1 ≤ 6), LrS.cut ⟨_, b, ι, h, w, x0⟩ rfl hlow ⟨(Ouf @ho), by exact Erf (jn2 @nb5 @hB), by exact Ecf @e2, by exact Ecf @e3, by exact Ecf @e7⟩⟩
        · have c' : (f = 0) = False := eq_false hf
          refine Rkf @c' ?_
          refine Bf ?_
          refine AWP.skip ?_
          exact ⟨(by decide : 1 ≤ 6), LrS.cut ⟨_, b, ι, h, w, x0⟩ rfl hlow ⟨(Ouf @ho), by exact Erf (jn2 @nb5 @hB), by exact Ecf @e2, by exact Ecf @e3, by exact Ecf @e7⟩⟩
    · have c' : (e = 0) = False := eq_false he
      refine Rkf @c' ?_
      refine Bf ?_
      refine AWP.skip ?_
      exact ⟨(by decide : 1 ≤ 3), LrS.cut ⟨_, b, ι, h, w, x0⟩ rfl hlow ⟨Ou, by exact Er, by exact Er, by exact Er, by exact Er⟩⟩
  rintro ⟨t, hh, n⟩ ⟨ho, hB, e2, e3, e7⟩ hn1
  simp only at ho hB e2 e3 e7 hn1
  subst hn1
  obtain ⟨⟨c, f⟩, hvl⟩ : ∃ v, lstS keyR s dir = v := ⟨_, rfl⟩
  refine Rgf (jn3 @hB @e2 @e3) (fun E K hE hK => ?_)
  refine CallR.use (lst_c z hvl _ _) body_25 ?_
  rintro _ h2 ⟨⟨l, rfl⟩, eh⟩
  rw [eh]
  clear eh h2
  have nb1 : ¬ b = b + 1 := by omega
  refine Ev ?_
  refine hK _ _ _ ?_; clear hE hK K E
  refine AWP.seq ?_
  by_cases hf : f = 0
  · subst hf
    obtain ⟨o, hd, rfl⟩ := lst_inv hvl
    have n12 : ¬ b + 1 = b + 2 := by omega
    have nb2 : ¬ b = b + 2 := by omega
    have hdn : decide (dir ∈ putQ s.dirs dir) = true := decide_eq_true (putQ_in o.drs.1)
    have kin := sin_ok (putQ s.dirs dir) dir (by have : (putQ s.dirs dir).length ≤ s.dirs.length + 1 := set_len; have := o.dlen; omega)
    rw [hdn] at kin
    have kn := sgNm_ok s.names s.names (by have := z.nm; omega)
    rw [decide_eq_true rfl] at kn
    refine Rk ?_
    refine Bs ?_
    refine Rk ?_
    refine Rkf (jn4 @hB @e3 @nb1 @nb2) ?_
    refine Rgf (jn7 @hB @e2 @e3 @e7 @nb1 @nb2 @n12) (fun E K hE hK => ?_)
    refine Us (kin _ _) body_36 ?_
    refine Evf (jn5 @e3 @hB @nb1 @nb2 @n12) ?_
    refine Us (ssame_ok s z _ _) body_37 ?_
    refine Evf (jn5 @e3 @hB @nb1 @nb2 @n12) ?_
    refine Us (kn _ _) body_29 ?_
    refine hK _ _ _ ?_; clear hE hK K E
    refine AWP.ret ?_
    exact fin _ _ _ (by exact Er) (Ouf @ho)
  · have c' : (f = 0) = False := eq_false hf
    refine Rkf @c' ?_
    refine Bt ?_
    refine Rkf @e7 ?_
    refine AWP.ret ?_
    refine Ev ?_
    exact fin _ _ _ (by exact Er) (Ouf @ho)
end Go.Proofs.YtihgnpboabpchaaGreatDoor
