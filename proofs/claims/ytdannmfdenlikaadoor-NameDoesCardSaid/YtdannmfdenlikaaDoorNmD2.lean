/-
  Walks of the reference for names: Parts, join.
-/
import Derived.Test.YtdannmfdenlikaaDoorNmD1
namespace Go.Proofs.YtdannmfdenlikaaDoor
set_option linter.unusedSimpArgs false
set_option linter.unusedVariables false
set_option linter.unnecessarySimpa false
open Go Am
set_option maxRecDepth 100000

/-- an own row of texts -/
def StrRow (h : Heap) (id ver cap : Nat) (ds : List S) : Prop := ∃ T, h id = some ⟨ver, ds.map strC ++ T⟩ ∧ ds.length + T.length = cap ∧ lowCs 0 T = true

theorem strC_low (b : Nat) (ds : List S) : lowCs b (ds.map strC) = true := lowCs_of fun c hc => by obtain ⟨k, _, rfl⟩ := List.mem_map.1 hc; rfl

theorem StrRow.cut {h : Heap} {id ver cap m : Nat} {ds : List S} (r : StrRow h id ver cap ds) (hm : id < m) : StrRow (cutH m h) id ver cap ds := by
  obtain ⟨T, h1, h2, h3⟩ := r
  exact ⟨T, cutH_same hm h1 (lowCs_app (strC_low _ _) (lowCs_mono (Nat.zero_le _) h3)), h2, h3⟩

theorem StrRow.ne {h : Heap} {id ver cap i : Nat} {ds : List S} {blk : Blk} (r : StrRow h id ver cap ds) (hi : id ≠ i) : StrRow (upd h i blk) id ver cap ds := by
  obtain ⟨T, h1, h2, h3⟩ := r
  exact ⟨T, by rw [upd_ne _ _ _ _ hi]; exact h1, h2, h3⟩

theorem append_str {C : Ctx} {h : Heap} {n : Nat} {K : KT} {id ver cap id2 : Nat} {ds : List S} {p : S} (hr : StrRow h id ver cap ds) (h2 : h id2 = some ⟨0, [strC p]⟩) (hl : ds.length ≤ 100000)
    (k : ∀ cap' T', ds.length + 1 + T'.length = cap' → lowCs 0 T' = true → K (.one (.win id (ver + 1) 0 (ds.length + 1) cap')) (upd h id ⟨ver + 1, (ds ++ [p]).map strC ++ T'⟩) n) :
    BiK Tryd.prog C .append [38, 38] [.one (.win id ver 0 ds.length cap), .one (.win id2 0 0 1 1)] h n K := by
  obtain ⟨T, h1, h3, h4⟩ := hr
  refine BiK.append_own (e := 9) (sz := 1) (bytes := 16) (m := 1) (xs := [strC p]) (blk := ⟨ver, ds.map strC ++ T⟩) ty_slE_38 ty_tsz_9 ty_tzero_9 rfl ty_tby_9 ty_isIntT_38 h1 rfl
    (by simp; omega) (by simp [srcA, h2]) (by simp [okC, Value.oneCell']) (by omega) (by decide) (by omega) (fun cap' j q1 q2 => ?_)
  have e : List.take (ds.length * 1) (ds.map strC ++ T) ++ ([strC p] ++ List.replicate j Cell.junk) = (ds ++ [p]).map strC ++ List.replicate j .junk := by
    rw [Nat.mul_one, List.take_left' (by simp)]; simp
  rw [show (⟨ver, ds.map strC ++ T⟩ : Blk).cells = ds.map strC ++ T from rfl, e]
  exact k cap' _ (by rw [List.length_replicate]; omega) (lowCs_junk _ _)

theorem parts_snoc {a x : S} {ds : List S} {c : UInt8} (h : parts a = ds ++ [x]) (hc : c ≠ 47) : parts (a ++ [c]) = ds ++ [x ++ [c]] := by
  have hm : ∀ q ∈ ds ++ [x], (47 : UInt8) ∉ q := fun q hq => (mem_parts (by rw [h]; exact hq)).1
  have hx : (47 : UInt8) ∉ x ++ [c] := by
    intro e
    rcases List.mem_append.1 e with e | e
    · exact hm x (by simp) e
    · simp at e; exact hc e.symm
  have ha := joinS_parts a
  rw [h] at ha
  by_cases hd : ds = []
  · subst hd
    have : a = x := ha.symm
    rw [this, parts_one hx]; rfl
  · rw [joinS_app hd (by simp)] at ha
    have : a ++ [c] = joinS ds ++ 47 :: (x ++ [c]) := by rw [← ha]; simp [joinS]
    rw [this, parts_app, parts_joinS hd (fun q hq => hm q (by simp [hq])), parts_one hx]

/-- at the head of the loop of Parts -/
def prtI (s : ByteArray) (h : Heap) (b i : Nat) (st : St) : Prop :=
  ∃ ver cap ds f, StrRow st.h b ver cap ds ∧ (∀ id, id < b → st.h id = h id) ∧ st.t 0 = StrB s ∧ st.t 3 = .one (.win b ver 0 ds.length cap) ∧ st.t 4 = IntV (f : Nat) ∧ st.t 7 = IntV s.size ∧ st.t 8 = IntV (i : Nat) ∧ f ≤ i ∧
    parts ((bl s).take i) = ds ++ [((bl s).take i).drop f]

theorem parts_step {l ds : List _} {f i : Nat} {c : UInt8} (hf : f ≤ i) (hi : l[i]? = some c) (h : parts (l.take i) = ds ++ [(l.take i).drop f]) :
    parts (l.take (i + 1)) = if c = 47 then (ds ++ [(l.take i).drop f]) ++ [(l.take (i + 1)).drop (i + 1)] else ds ++ [(l.take (i + 1)).drop f] := by
  have ht : l.take (i + 1) = l.take i ++ [c] := by rw [List.take_add_one, hi]; rfl
  have hlt : i < l.length := (List.getElem?_eq_some_iff.1 hi).1
  split
  · rename_i hc
    subst hc
    rw [ht, parts_app (l.take i) [], h, List.drop_of_length_le (l := l.take i ++ [47]) (by simp; omega)]; rfl
  · rename_i hc
    rw [ht, parts_snoc h hc, List.drop_append_of_le_length (by simp; omega)]

theorem ext_mid (s : ByteArray) (f i : Nat) (hf : f ≤ i) : s.extract f i = mkS (((bl s).take i).drop f) := by
  have := mkS_extract (bl s) f i
  rw [mkS_of] at this
  rw [this, List.drop_take]

theorem Parts_ok (s : ByteArray) (hs : s.size ≤ 1000) (h : Heap) (b : Nat) : ACalls Tryd.prog 31 [StrB s] h b 0 (fun r h' => r = ListV (parts (bl s)) ∧ h' = h) := by
  refine ACalls.enter Tryd.func31 rfl (by simp [Tryd.ntmps31]) (fun ι w hn H => ?_)
  have hlow := H.lowCells
  have hlen := bl_len s
  refine AWP.seqReg (by kernel_rfl) (fun E K hE hK => ?_); simp -implicitDefEqProofs only [go_sem, ↓reduceIte, Nat.reduceEqDiff, Nat.reduceAdd, Nat.reduceMul, Nat.reduceLT, Nat.reduceLeDiff, reduceCtorEq, Int.toNat_natCast]; refine hK _ _ _ ?_; clear hE hK K E
  refine AWP.seqReg (by kernel_rfl) (fun E K hE hK => ?_); simp -implicitDefEqProofs only [go_sem, ↓reduceIte, Nat.reduceEqDiff, Nat.reduceAdd, Nat.reduceMul, Nat.reduceLT, Nat.reduceLeDiff, reduceCtorEq, Int.toNat_natCast]; refine hK _ _ _ ?_; clear hE hK K E
  refine AWP.virt 3 (by (first | (simp -implicitDefEqProofs only [go_sem, ↓reduceIte, Nat.reduceEqDiff, Nat.reduceAdd, Nat.reduceMul, Nat.reduceLT, Nat.reduceLeDiff, reduceCtorEq, Int.toNat_natCast]; done) | (simp -implicitDefEqProofs only [go_sem, ↓reduceIte, Nat.reduceEqDiff, Nat.reduceAdd, Nat.reduceMul, Nat.reduceLT, Nat.reduceLeDiff, reduceCtorEq, Int.toNat_natCast]; rfl) | rfl)) ?_
  simp -implicitDefEqProofs only [go_sem, ↓reduceIte, Nat.reduceEqDiff, Nat.reduceAdd, Nat.reduceMul, Nat.reduceLT, Nat.reduceLeDiff, reduceCtorEq, Int.toNat_natCast]
  refine AWP.seqReg (by kernel_rfl) (fun E K hE hK => ?_); simp -implicitDefEqProofs only [go_sem, ↓reduceIte, Nat.reduceEqDiff, Nat.reduceAdd, Nat.reduceMul, Nat.reduceLT, Nat.reduceLeDiff, reduceCtorEq, Int.toNat_natCast]; refine hK _ _ _ ?_; clear hE hK K E
  refine AWP.seq ?_
  refine AWP.seqReg (by kernel_rfl) (fun E K hE hK => ?_); simp -implicitDefEqProofs only [go_sem, ↓reduceIte, Nat.reduceEqDiff, Nat.reduceAdd, Nat.reduceMul, Nat.reduceLT, Nat.reduceLeDiff, reduceCtorEq, Int.toNat_natCast]; refine hK _ _ _ ?_; clear hE hK K E
  refine AWP.block ?_
  refine AWP.loopM 1 (fun m st => ∃ i, i ≤ s.size ∧ m = s.size - i ∧ prtI s h b i st) s.size rfl ⟨0, Nat.zero_le _, rfl, 0, 0, [], 0, ⟨[], by (first | (simp -implicitDefEqProofs only [go_sem, ↓reduceIte, Nat.reduceEqDiff, Nat.reduceAdd, Nat.reduceMul, Nat.reduceLT, Nat.reduceLeDiff, reduceCtorEq, Int.toNat_natCast]; done) | (simp -implicitDefEqProofs only [go_sem, ↓reduceIte, Nat.reduceEqDiff, Nat.reduceAdd, Nat.reduceMul, Nat.reduceLT, Nat.reduceLeDiff, reduceCtorEq, Int.toNat_natCast]; rfl) | rfl), rfl, rfl⟩, (fun id (hid : id < b) => by simp -implicitDefEqProofs only [go_sem, ↓reduceIte, Nat.reduceEqDiff, Nat.reduceAdd, Nat.reduceMul, Nat.reduceLT, Nat.reduceLeDiff, reduceCtorEq, Int.toNat_natCast, show ¬ id = b by omega]), by (first | (simp -implicitDefEqProofs only [go_sem, ↓reduceIte, Nat.reduceEqDiff, Nat.reduceAdd, Nat.reduceMul, Nat.reduceLT, Nat.reduceLeDiff, reduceCtorEq, Int.toNat_natCast]; done) | (simp -implicitDefEqProofs only [go_sem, ↓reduceIte, Nat.reduceEqDiff, Nat.reduceAdd, Nat.reduceMul, Nat.reduceLT, Nat.reduceLeDiff, reduceCtorEq, Int.toNat_natCast]; rfl) | rfl), by (first | (simp -implicitDefEqProofs only [go_sem, ↓reduceIte, Nat.reduceEqDiff, Nat.reduceAdd, Nat.reduceMul, Nat.reduceLT, Nat.reduceLeDiff, reduceCtorEq, Int.toNat_natCast]; done) | (simp -implicitDefEqProofs only [go_sem, ↓reduceIte, Nat.reduceEqDiff, Nat.reduceAdd, Nat.reduceMul, Nat.reduceLT, Nat.reduceLeDiff, reduceCtorEq, Int.toNat_natCast]; rfl) | rfl), by (first | (simp -implicitDefEqProofs only [go_sem, ↓reduceIte, Nat.reduceEqDiff, Nat.reduceAdd, Nat.reduceMul, Nat.reduceLT, Nat.reduceLeDiff, reduceCtorEq, Int.toNat_natCast]; done) | (simp -implicitDefEqProofs only [go_sem, ↓reduceIte, Nat.reduceEqDiff, Nat.reduceAdd, Nat.reduceMul, Nat.reduceLT, Nat.reduceLeDiff, reduceCtorEq, Int.toNat_natCast]; rfl) | rfl), by (first | (simp -implicitDefEqProofs only [go_sem, ↓reduceIte, Nat.reduceEqDiff, Nat.reduceAdd, Nat.reduceMul, Nat.reduceLT, Nat.reduceLeDiff, reduceCtorEq, Int.toNat_natCast]; done) | (simp -implicitDefEqProofs only [go_sem, ↓reduceIte, Nat.reduceEqDiff, Nat.reduceAdd, Nat.reduceMul, Nat.reduceLT, Nat.reduceLeDiff, reduceCtorEq, Int.toNat_natCast]; rfl) | rfl), by (first | (simp -implicitDefEqProofs only [go_sem, ↓reduceIte, Nat.reduceEqDiff, Nat.reduceAdd, Nat.reduceMul, Nat.reduceLT, Nat.reduceLeDiff, reduceCtorEq, Int.toNat_natCast]; done) | (simp -implicitDefEqProofs only [go_sem, ↓reduceIte, Nat.reduceEqDiff, Nat.reduceAdd, Nat.reduceMul, Nat.reduceLT, Nat.reduceLeDiff, reduceCtorEq, Int.toNat_natCast]; rfl) | rfl), Nat.le_refl _, rfl⟩ ?_
  rintro m ⟨t, hh, n⟩ ⟨i, hi, rfl, ver, cap, ds, f, hr, ho, e0, e3, e4, e7, e8, hf, hp⟩ hn1
  simp only at hr ho e0 e3 e4 e7 e8 hn1
  subst hn1
  have hds : ds.length ≤ 1001 := by
    have h1 := parts_len ((bl s).take i)
    rw [hp, List.length_append, List.length_take] at h1
    simp at h1; omega
  refine AWP.seqReg (by kernel_rfl) (fun E K hE hK => ?_); simp -implicitDefEqProofs only [go_sem, ↓reduceIte, Nat.reduceEqDiff, Nat.reduceAdd, Nat.reduceMul, Nat.reduceLT, Nat.reduceLeDiff, reduceCtorEq, Int.toNat_natCast, e7, e8]; refine hK _ _ _ ?_; clear hE hK K E
  refine AWP.seq ?_
  by_cases hlt : (i : Int) < s.size
  · refine AWP.ifT (by simp -implicitDefEqProofs only [go_sem, ↓reduceIte, Nat.reduceEqDiff, Nat.reduceAdd, Nat.reduceMul, Nat.reduceLT, Nat.reduceLeDiff, reduceCtorEq, Int.toNat_natCast, hlt]) ?_
    refine AWP.skip ?_
    simp -implicitDefEqProofs only [go_sem, ↓reduceIte, Nat.reduceEqDiff, Nat.reduceAdd, Nat.reduceMul, Nat.reduceLT, Nat.reduceLeDiff, reduceCtorEq, Int.toNat_natCast]
    refine AWP.seq ?_
    refine AWP.block ?_
    refine AWP.seqReg (by kernel_rfl) (fun E K hE hK => ?_); simp -implicitDefEqProofs only [go_sem, ↓reduceIte, Nat.reduceEqDiff, Nat.reduceAdd, Nat.reduceMul, Nat.reduceLT, Nat.reduceLeDiff, reduceCtorEq, Int.toNat_natCast, e8]; refine hK _ _ _ ?_; clear hE hK K E
    obtain ⟨c, hc1, hc2⟩ := strAt_get s i (by omega)
    have hstep := parts_step hf hc1 hp
    have h47 : ((c.toNat : Int) = 47) ↔ (c = 47) := by rw [← UInt8.toNat_inj]; have : (47 : UInt8).toNat = 47 := rfl; omega
    have hw1 : IntKind.i64.wrap ((i : Int) + 1) = ((i + 1 : Nat) : Int) := by rw [wrap_i64 (by omega) (by omega)]; rfl
    refine AWP.seqReg (by kernel_rfl) (fun E K hE hK => ?_); simp -implicitDefEqProofs only [go_sem, ↓reduceIte, Nat.reduceEqDiff, Nat.reduceAdd, Nat.reduceMul, Nat.reduceLT, Nat.reduceLeDiff, reduceCtorEq, Int.toNat_natCast, e0, e8, hc2]
    refine ⟨⟨by omega, hlt⟩, ?_⟩
    refine hK _ _ _ ?_; clear hE hK K E
    by_cases c1 : c = 47
    · have c1' : ((c.toNat : Int) = 47) := h47.2 c1
      rw [if_pos c1] at hstep
      refine AWP.ifT (by simp -implicitDefEqProofs only [go_sem, ↓reduceIte, Nat.reduceEqDiff, Nat.reduceAdd, Nat.reduceMul, Nat.reduceLT, Nat.reduceLeDiff, reduceCtorEq, Int.toNat_natCast, c1']) ?_
      have hfi : (f : Int) ≤ i := by omega
      refine AWP.seqReg (by kernel_rfl) (fun E K hE hK => ?_); simp -implicitDefEqProofs only [go_sem, ↓reduceIte, Nat.reduceEqDiff, Nat.reduceAdd, Nat.reduceMul, Nat.reduceLT, Nat.reduceLeDiff, reduceCtorEq, Int.toNat_natCast, e0, e3, e4, ext_mid s f i hf]
      refine ⟨rfl, ⟨by omega, by omega⟩, ⟨by omega, by omega⟩, ?_⟩
      refine BiR.of ?_
      refine append_str (p := ((bl s).take i).drop f) (hr.ne (by omega)) (by (first | (simp -implicitDefEqProofs only [go_sem, ↓reduceIte, Nat.reduceEqDiff, Nat.reduceAdd, Nat.reduceMul, Nat.reduceLT, Nat.reduceLeDiff, reduceCtorEq, Int.toNat_natCast]; done) | (simp -implicitDefEqProofs only [go_sem, ↓reduceIte, Nat.reduceEqDiff, Nat.reduceAdd, Nat.reduceMul, Nat.reduceLT, Nat.reduceLeDiff, reduceCtorEq, Int.toNat_natCast]; rfl) | rfl)) (by omega) (fun cap' T' q1 q2 => ?_)
      simp -implicitDefEqProofs only [go_sem, ↓reduceIte, Nat.reduceEqDiff, Nat.reduceAdd, Nat.reduceMul, Nat.reduceLT, Nat.reduceLeDiff, reduceCtorEq, Int.toNat_natCast]
      refine hK _ _ _ ?_; clear hE hK K E
      refine AWP.reg (by kernel_rfl) (fun E K hE hK => ?_); simp -implicitDefEqProofs only [go_sem, ↓reduceIte, Nat.reduceEqDiff, Nat.reduceAdd, Nat.reduceMul, Nat.reduceLT, Nat.reduceLeDiff, reduceCtorEq, Int.toNat_natCast, hw1]; refine hK _ _ _ ?_; clear hE hK K E
      simp -implicitDefEqProofs only [go_sem, ↓reduceIte, Nat.reduceEqDiff, Nat.reduceAdd, Nat.reduceMul, Nat.reduceLT, Nat.reduceLeDiff, reduceCtorEq, Int.toNat_natCast]
      refine AWP.reg (by kernel_rfl) (fun E K hE hK => ?_); simp -implicitDefEqProofs only [go_sem, ↓reduceIte, Nat.reduceEqDiff, Nat.reduceAdd, Nat.reduceMul, Nat.reduceLT, Nat.reduceLeDiff, reduceCtorEq, Int.toNat_natCast, e8, hw1]; refine hK _ _ _ ?_; clear hE hK K E
      refine ⟨(by decide : 1 ≤ 2), _, ?_, i + 1, by omega, rfl, ver + 1, cap', ds ++ [((bl s).take i).drop f], i + 1, StrRow.cut ⟨T', by (first | (simp -implicitDefEqProofs only [go_sem, ↓reduceIte, Nat.reduceEqDiff, Nat.reduceAdd, Nat.reduceMul, Nat.reduceLT, Nat.reduceLeDiff, reduceCtorEq, Int.toNat_natCast]; done) | (simp -implicitDefEqProofs only [go_sem, ↓reduceIte, Nat.reduceEqDiff, Nat.reduceAdd, Nat.reduceMul, Nat.reduceLT, Nat.reduceLeDiff, reduceCtorEq, Int.toNat_natCast]; rfl) | rfl), by simpa using q1, q2⟩ (Nat.lt_succ_self _), cutH_outer (Nat.le_succ _) (fun id (hid : id < b) => by simp -implicitDefEqProofs only [go_sem, ↓reduceIte, Nat.reduceEqDiff, Nat.reduceAdd, Nat.reduceMul, Nat.reduceLT, Nat.reduceLeDiff, reduceCtorEq, Int.toNat_natCast, show ¬ id = b by omega, show ¬ id = b + 1 by omega, ho id hid]) hlow, by simp -implicitDefEqProofs only [go_sem, ↓reduceIte, Nat.reduceEqDiff, Nat.reduceAdd, Nat.reduceMul, Nat.reduceLT, Nat.reduceLeDiff, reduceCtorEq, Int.toNat_natCast, e0], ?_, by simp -implicitDefEqProofs only [go_sem, ↓reduceIte, Nat.reduceEqDiff, Nat.reduceAdd, Nat.reduceMul, Nat.reduceLT, Nat.reduceLeDiff, reduceCtorEq, Int.toNat_natCast], by simp -implicitDefEqProofs only [go_sem, ↓reduceIte, Nat.reduceEqDiff, Nat.reduceAdd, Nat.reduceMul, Nat.reduceLT, Nat.reduceLeDiff, reduceCtorEq, Int.toNat_natCast, e7], by simp -implicitDefEqProofs only [go_sem, ↓reduceIte, Nat.reduceEqDiff, Nat.reduceAdd, Nat.reduceMul, Nat.reduceLT, Nat.reduceLeDiff, reduceCtorEq, Int.toNat_natCast], Nat.le_refl _, hstep⟩
      · omega
      · rw [List.length_append]; simp -implicitDefEqProofs only [go_sem, ↓reduceIte, Nat.reduceEqDiff, Nat.reduceAdd, Nat.reduceMul, Nat.reduceLT, Nat.reduceLeDiff, reduceCtorEq, Int.toNat_natCast]; exact cutV_win (Nat.lt_succ_self _)
    · have c1' : ¬ ((c.toNat : Int) = 47) := fun e => c1 (h47.1 e)
      rw [if_neg c1] at hstep
      refine AWP.ifF (by simp -implicitDefEqProofs only [go_sem, ↓reduceIte, Nat.reduceEqDiff, Nat.reduceAdd, Nat.reduceMul, Nat.reduceLT, Nat.reduceLeDiff, reduceCtorEq, Int.toNat_natCast, c1']) ?_
      refine AWP.skip ?_
      simp -implicitDefEqProofs only [go_sem, ↓reduceIte, Nat.reduceEqDiff, Nat.reduceAdd, Nat.reduceMul, Nat.reduceLT, Nat.reduceLeDiff, reduceCtorEq, Int.toNat_natCast]
      refine AWP.reg (by kernel_rfl) (fun E K hE hK => ?_); simp -implicitDefEqProofs only [go_sem, ↓reduceIte, Nat.reduceEqDiff, Nat.reduceAdd, Nat.reduceMul, Nat.reduceLT, Nat.reduceLeDiff, reduceCtorEq, Int.toNat_natCast, e8, hw1]; refine hK _ _ _ ?_; clear hE hK K E
      refine ⟨Nat.le_refl _, _, ?_, i + 1, by omega, rfl, ver, cap, ds, f, hr.cut (Nat.lt_succ_self _), cutH_outer (Nat.le_succ _) ho hlow, by simp -implicitDefEqProofs only [go_sem, ↓reduceIte, Nat.reduceEqDiff, Nat.reduceAdd, Nat.reduceMul, Nat.reduceLT, Nat.reduceLeDiff, reduceCtorEq, Int.toNat_natCast, e0], by simp -implicitDefEqProofs only [go_sem, ↓reduceIte, Nat.reduceEqDiff, Nat.reduceAdd, Nat.reduceMul, Nat.reduceLT, Nat.reduceLeDiff, reduceCtorEq, Int.toNat_natCast, e3]; exact cutV_win (Nat.lt_succ_self _), by simp -implicitDefEqProofs only [go_sem, ↓reduceIte, Nat.reduceEqDiff, Nat.reduceAdd, Nat.reduceMul, Nat.reduceLT, Nat.reduceLeDiff, reduceCtorEq, Int.toNat_natCast, e4], by simp -implicitDefEqProofs only [go_sem, ↓reduceIte, Nat.reduceEqDiff, Nat.reduceAdd, Nat.reduceMul, Nat.reduceLT, Nat.reduceLeDiff, reduceCtorEq, Int.toNat_natCast, e7], by simp -implicitDefEqProofs only [go_sem, ↓reduceIte, Nat.reduceEqDiff, Nat.reduceAdd, Nat.reduceMul, Nat.reduceLT, Nat.reduceLeDiff, reduceCtorEq, Int.toNat_natCast], by omega, hstep⟩
      omega
  · refine AWP.ifF (by simp -implicitDefEqProofs only [go_sem, ↓reduceIte, Nat.reduceEqDiff, Nat.reduceAdd, Nat.reduceMul, Nat.reduceLT, Nat.reduceLeDiff, reduceCtorEq, Int.toNat_natCast, hlt]) ?_
    refine AWP.exit ?_
    simp -implicitDefEqProofs only [go_sem, ↓reduceIte, Nat.reduceEqDiff, Nat.reduceAdd, Nat.reduceMul, Nat.reduceLT, Nat.reduceLeDiff, reduceCtorEq, Int.toNat_natCast]
    have hii : i = s.size := by omega
    subst hii
    rw [← hlen, List.take_length] at hp
    have hfs : (f : Int) ≤ s.size := by omega
    have hx : s.extract f s.size = mkS ((bl s).drop f) := ext_drop s f
    refine AWP.seqReg (by kernel_rfl) (fun E K hE hK => ?_); simp -implicitDefEqProofs only [go_sem, ↓reduceIte, Nat.reduceEqDiff, Nat.reduceAdd, Nat.reduceMul, Nat.reduceLT, Nat.reduceLeDiff, reduceCtorEq, Int.toNat_natCast, e0, e3, e4, hx]
    refine ⟨rfl, ⟨by omega, by omega⟩, ?_⟩
    refine BiR.of ?_
    refine append_str (p := (bl s).drop f) (hr.ne (by omega)) (by (first | (simp -implicitDefEqProofs only [go_sem, ↓reduceIte, Nat.reduceEqDiff, Nat.reduceAdd, Nat.reduceMul, Nat.reduceLT, Nat.reduceLeDiff, reduceCtorEq, Int.toNat_natCast]; done) | (simp -implicitDefEqProofs only [go_sem, ↓reduceIte, Nat.reduceEqDiff, Nat.reduceAdd, Nat.reduceMul, Nat.reduceLT, Nat.reduceLeDiff, reduceCtorEq, Int.toNat_natCast]; rfl) | rfl)) (by omega) (fun cap' T' q1 q2 => ?_)
    simp -implicitDefEqProofs only [go_sem, ↓reduceIte, Nat.reduceEqDiff, Nat.reduceAdd, Nat.reduceMul, Nat.reduceLT, Nat.reduceLeDiff, reduceCtorEq, Int.toNat_natCast]
    refine hK _ _ _ ?_; clear hE hK K E
    refine AWP.ret ?_
    have hlp : ds.length + 1 = ((parts (bl s)).map encS).length := by rw [List.length_map, hp]; simp
    refine Ends.pure hn H (fun id (hid : id < b) => by simp -implicitDefEqProofs only [go_sem, ↓reduceIte, Nat.reduceEqDiff, Nat.reduceAdd, Nat.reduceMul, Nat.reduceLT, Nat.reduceLeDiff, reduceCtorEq, Int.toNat_natCast, show ¬ id = b by omega, show ¬ id = b + 1 by omega, ho id hid]) (r0 := .one (.win b (ver + 1) 0 ((parts (bl s)).map encS).length cap')) (by rw [show Tryd.f31.results.toList = [.tmp 2] from rfl, ← hlp]; (first | (simp -implicitDefEqProofs only [go_sem, ↓reduceIte, Nat.reduceEqDiff, Nat.reduceAdd, Nat.reduceMul, Nat.reduceLT, Nat.reduceLeDiff, reduceCtorEq, Int.toNat_natCast]; done) | (simp -implicitDefEqProofs only [go_sem, ↓reduceIte, Nat.reduceEqDiff, Nat.reduceAdd, Nat.reduceMul, Nat.reduceLT, Nat.reduceLeDiff, reduceCtorEq, Int.toNat_natCast]; rfl) | rfl)) (.one (frz_row0 (sz := 1) (es := (parts (bl s)).map encS) (T := T') (Nat.le_refl _) (by rw [rowB, flat_str, hp]; (first | (simp -implicitDefEqProofs only [go_sem, ↓reduceIte, Nat.reduceEqDiff, Nat.reduceAdd, Nat.reduceMul, Nat.reduceLT, Nat.reduceLeDiff, reduceCtorEq, Int.toNat_natCast]; done) | (simp -implicitDefEqProofs only [go_sem, ↓reduceIte, Nat.reduceEqDiff, Nat.reduceAdd, Nat.reduceMul, Nat.reduceLT, Nat.reduceLeDiff, reduceCtorEq, Int.toNat_natCast]; rfl) | rfl)) (okEs_str _))) ⟨rfl, rfl⟩

/-- at the head of the loop of join -/
def jonI (xs : List S) (h : Heap) (i : Nat) (st : St) : Prop :=
  st.h = h ∧ st.t 3 = StrV (joinS (xs.take i)) ∧ st.t 6 = ListV xs ∧ st.t 7 = IntV xs.length ∧ st.t 8 = IntV (i : Nat)

theorem wt_take (xs : List S) : ∀ i, wt (xs.take i) ≤ wt xs := by
  induction xs with
  | nil => intro i; simp
  | cons x xs ih => intro i; cases i with
                    | zero => simp [wt]
                    | succ i => rw [List.take_succ_cons]; have := ih i; simp only [wt]; omega

theorem joinL_ok (xs : List S) (hx : wt xs ≤ 10000) (h : Heap) (b : Nat) : ACalls Tryd.prog 32 [ListV xs] h b 0 (fun r h' => r = StrV (joinS xs) ∧ h' = h) := by
  refine ACalls.enter Tryd.func32 rfl (by simp [Tryd.ntmps32]) (fun ι w hn H => ?_)
  have hlx := len_wt xs
  refine AWP.seqReg (by kernel_rfl) (fun E K hE hK => ?_); simp -implicitDefEqProofs only [go_sem, ↓reduceIte, Nat.reduceEqDiff, Nat.reduceAdd, Nat.reduceMul, Nat.reduceLT, Nat.reduceLeDiff, reduceCtorEq, Int.toNat_natCast]; refine hK _ _ _ ?_; clear hE hK K E
  refine AWP.seqReg (by kernel_rfl) (fun E K hE hK => ?_); simp -implicitDefEqProofs only [go_sem, ↓reduceIte, Nat.reduceEqDiff, Nat.reduceAdd, Nat.reduceMul, Nat.reduceLT, Nat.reduceLeDiff, reduceCtorEq, Int.toNat_natCast]; refine hK _ _ _ ?_; clear hE hK K E
  refine AWP.seq ?_
  refine AWP.seqReg (by kernel_rfl) (fun E K hE hK => ?_); simp -implicitDefEqProofs only [go_sem, ↓reduceIte, Nat.reduceEqDiff, Nat.reduceAdd, Nat.reduceMul, Nat.reduceLT, Nat.reduceLeDiff, reduceCtorEq, Int.toNat_natCast]; refine hK _ _ _ ?_; clear hE hK K E
  refine AWP.block ?_
  refine AWP.loopK 0 (fun m st => ∃ i, i ≤ xs.length ∧ m = xs.length - i ∧ jonI xs h i st) xs.length rfl ⟨0, Nat.zero_le _, rfl, rfl, by (first | (simp -implicitDefEqProofs only [go_sem, ↓reduceIte, Nat.reduceEqDiff, Nat.reduceAdd, Nat.reduceMul, Nat.reduceLT, Nat.reduceLeDiff, reduceCtorEq, Int.toNat_natCast]; done) | (simp -implicitDefEqProofs only [go_sem, ↓reduceIte, Nat.reduceEqDiff, Nat.reduceAdd, Nat.reduceMul, Nat.reduceLT, Nat.reduceLeDiff, reduceCtorEq, Int.toNat_natCast]; rfl) | rfl), by (first | (simp -implicitDefEqProofs only [go_sem, ↓reduceIte, Nat.reduceEqDiff, Nat.reduceAdd, Nat.reduceMul, Nat.reduceLT, Nat.reduceLeDiff, reduceCtorEq, Int.toNat_natCast]; done) | (simp -implicitDefEqProofs only [go_sem, ↓reduceIte, Nat.reduceEqDiff, Nat.reduceAdd, Nat.reduceMul, Nat.reduceLT, Nat.reduceLeDiff, reduceCtorEq, Int.toNat_natCast]; rfl) | rfl), by (first | (simp -implicitDefEqProofs only [go_sem, ↓reduceIte, Nat.reduceEqDiff, Nat.reduceAdd, Nat.reduceMul, Nat.reduceLT, Nat.reduceLeDiff, reduceCtorEq, Int.toNat_natCast, List.length_map]; done) | (simp -implicitDefEqProofs only [go_sem, ↓reduceIte, Nat.reduceEqDiff, Nat.reduceAdd, Nat.reduceMul, Nat.reduceLT, Nat.reduceLeDiff, reduceCtorEq, Int.toNat_natCast, List.length_map]; rfl) | rfl), by (first | (simp -implicitDefEqProofs only [go_sem, ↓reduceIte, Nat.reduceEqDiff, Nat.reduceAdd, Nat.reduceMul, Nat.reduceLT, Nat.reduceLeDiff, reduceCtorEq, Int.toNat_natCast]; done) | (simp -implicitDefEqProofs only [go_sem, ↓reduceIte, Nat.reduceEqDiff, Nat.reduceAdd, Nat.reduceMul, Nat.reduceLT, Nat.reduceLeDiff, reduceCtorEq, Int.toNat_natCast]; rfl) | rfl)⟩ ?_
  rintro m ⟨t, hh, n⟩ ⟨i, hi, rfl, rfl, e3, e6, e7, e8⟩ hn1
  simp only at e3 e6 e7 e8 hn1
  subst hn1
  have hjl : (joinS (xs.take i)).length ≤ 10000 := by
    by_cases h0 : xs.take i = []
    · rw [h0]; simp [joinS]
    · have := joinS_wt h0
      have := wt_take xs i
      omega
  refine AWP.seqReg (by kernel_rfl) (fun E K hE hK => ?_); simp -implicitDefEqProofs only [go_sem, ↓reduceIte, Nat.reduceEqDiff, Nat.reduceAdd, Nat.reduceMul, Nat.reduceLT, Nat.reduceLeDiff, reduceCtorEq, Int.toNat_natCast, e7, e8]; refine hK _ _ _ ?_; clear hE hK K E
  refine AWP.seq ?_
  by_cases hlt : (i : Int) < xs.length
  · refine AWP.ifT (by simp -implicitDefEqProofs only [go_sem, ↓reduceIte, Nat.reduceEqDiff, Nat.reduceAdd, Nat.reduceMul, Nat.reduceLT, Nat.reduceLeDiff, reduceCtorEq, Int.toNat_natCast, hlt]) ?_
    refine AWP.skip ?_
    simp -implicitDefEqProofs only [go_sem, ↓reduceIte, Nat.reduceEqDiff, Nat.reduceAdd, Nat.reduceMul, Nat.reduceLT, Nat.reduceLeDiff, reduceCtorEq, Int.toNat_natCast]
    refine AWP.seq ?_
    refine AWP.block ?_
    have hi2 : i < xs.length := by omega
    have hxi : xs[i].length ≤ 10000 := by
      have h1 := wt_take xs (i + 1)
      rw [List.take_add_one, List.getElem?_eq_getElem hi2, wt_app] at h1
      simp only [Option.toList_some, wt] at h1
      omega
    have hw1 : IntKind.i64.wrap ((i : Int) + 1) = ((i + 1 : Nat) : Int) := by rw [wrap_i64 (by omega) (by omega)]; rfl
    refine AWP.seqReg (by kernel_rfl) (fun E K hE hK => ?_); simp -implicitDefEqProofs only [go_sem, ↓reduceIte, Nat.reduceEqDiff, Nat.reduceAdd, Nat.reduceMul, Nat.reduceLT, Nat.reduceLeDiff, reduceCtorEq, Int.toNat_natCast, e6, e8, List.length_map, hlt, encS_getD xs i hi2]
    refine ⟨by omega, ?_⟩
    refine hK _ _ _ ?_; clear hE hK K E
    refine AWP.seq ?_
    refine AWP.seqReg (by kernel_rfl) (fun E K hE hK => ?_); simp -implicitDefEqProofs only [go_sem, ↓reduceIte, Nat.reduceEqDiff, Nat.reduceAdd, Nat.reduceMul, Nat.reduceLT, Nat.reduceLeDiff, reduceCtorEq, Int.toNat_natCast]; refine hK _ _ _ ?_; clear hE hK K E
    have hs1 : (#[(47 : UInt8)] : Array UInt8).size = 1 := rfl
    have e47 : (⟨#[47]⟩ : ByteArray) = mkS [47] := rfl
    by_cases h0 : 0 < i
    · have h0' : (0 : Int) < i := by omega
      have hne : xs.take i ≠ [] := by intro e; have := congrArg List.length e; rw [List.length_take, List.length_nil] at this; omega
      have hj : joinS (xs.take (i + 1)) = joinS (xs.take i) ++ [47] ++ xs[i] := by
        rw [List.take_add_one, List.getElem?_eq_getElem hi2, Option.toList_some, joinS_app hne (by simp)]; simp [joinS]
      have hz1 : (mkS (joinS (xs.take i))).size + (#[(47 : UInt8)] : Array UInt8).size ≤ 9223372036854775807 := by rw [mkS_size]; omega
      have hz2 : (mkS (joinS (xs.take i) ++ [47])).size + (mkS xs[i]).size ≤ 9223372036854775807 := by rw [mkS_size, mkS_size]; simp; omega
      have hcat : mkS (joinS (xs.take i)) ++ (⟨#[47]⟩ : ByteArray) = mkS (joinS (xs.take i) ++ [47]) := by rw [e47, mkS_append]
      refine AWP.ifT (by simp -implicitDefEqProofs only [go_sem, ↓reduceIte, Nat.reduceEqDiff, Nat.reduceAdd, Nat.reduceMul, Nat.reduceLT, Nat.reduceLeDiff, reduceCtorEq, Int.toNat_natCast, h0']) ?_
      refine AWP.reg (by kernel_rfl) (fun E K hE hK => ?_); simp -implicitDefEqProofs only [go_sem, ↓reduceIte, Nat.reduceEqDiff, Nat.reduceAdd, Nat.reduceMul, Nat.reduceLT, Nat.reduceLeDiff, reduceCtorEq, Int.toNat_natCast, e3, hz1, hcat]; refine hK _ _ _ ?_; clear hE hK K E
      simp -implicitDefEqProofs only [go_sem, ↓reduceIte, Nat.reduceEqDiff, Nat.reduceAdd, Nat.reduceMul, Nat.reduceLT, Nat.reduceLeDiff, reduceCtorEq, Int.toNat_natCast]
      refine AWP.reg (by kernel_rfl) (fun E K hE hK => ?_); simp -implicitDefEqProofs only [go_sem, ↓reduceIte, Nat.reduceEqDiff, Nat.reduceAdd, Nat.reduceMul, Nat.reduceLT, Nat.reduceLeDiff, reduceCtorEq, Int.toNat_natCast, hz2, mkS_append]; refine hK _ _ _ ?_; clear hE hK K E
      simp -implicitDefEqProofs only [go_sem, ↓reduceIte, Nat.reduceEqDiff, Nat.reduceAdd, Nat.reduceMul, Nat.reduceLT, Nat.reduceLeDiff, reduceCtorEq, Int.toNat_natCast]
      refine AWP.reg (by kernel_rfl) (fun E K hE hK => ?_); simp -implicitDefEqProofs only [go_sem, ↓reduceIte, Nat.reduceEqDiff, Nat.reduceAdd, Nat.reduceMul, Nat.reduceLT, Nat.reduceLeDiff, reduceCtorEq, Int.toNat_natCast, e8, hw1]; refine hK _ _ _ ?_; clear hE hK K E
      exact ⟨rfl, xs.length - (i + 1), by omega, i + 1, by omega, rfl, rfl, by rw [hj]; simp -implicitDefEqProofs only [go_sem, ↓reduceIte, Nat.reduceEqDiff, Nat.reduceAdd, Nat.reduceMul, Nat.reduceLT, Nat.reduceLeDiff, reduceCtorEq, Int.toNat_natCast], by simp -implicitDefEqProofs only [go_sem, ↓reduceIte, Nat.reduceEqDiff, Nat.reduceAdd, Nat.reduceMul, Nat.reduceLT, Nat.reduceLeDiff, reduceCtorEq, Int.toNat_natCast, e6], by simp -implicitDefEqProofs only [go_sem, ↓reduceIte, Nat.reduceEqDiff, Nat.reduceAdd, Nat.reduceMul, Nat.reduceLT, Nat.reduceLeDiff, reduceCtorEq, Int.toNat_natCast, e7], by simp -implicitDefEqProofs only [go_sem, ↓reduceIte, Nat.reduceEqDiff, Nat.reduceAdd, Nat.reduceMul, Nat.reduceLT, Nat.reduceLeDiff, reduceCtorEq, Int.toNat_natCast]⟩
    · have h0' : ¬ (0 : Int) < i := by omega
      have hi0 : i = 0 := by omega
      subst hi0
      have hj : joinS (xs.take 1) = xs[0] := by
        rw [List.take_add_one, List.getElem?_eq_getElem hi2]; simp [joinS]
      have e3' : t 3 = StrV [] := e3
      have hz2 : (mkS []).size + (mkS xs[0]).size ≤ 9223372036854775807 := by rw [mkS_size, mkS_size]; simp only [List.length_nil]; omega
      refine AWP.ifF (by simp -implicitDefEqProofs only [go_sem, ↓reduceIte, Nat.reduceEqDiff, Nat.reduceAdd, Nat.reduceMul, Nat.reduceLT, Nat.reduceLeDiff, reduceCtorEq, Int.toNat_natCast, h0']) ?_; refine AWP.skip ?_; simp -implicitDefEqProofs only [go_sem, ↓reduceIte, Nat.reduceEqDiff, Nat.reduceAdd, Nat.reduceMul, Nat.reduceLT, Nat.reduceLeDiff, reduceCtorEq, Int.toNat_natCast]
      refine AWP.reg (by kernel_rfl) (fun E K hE hK => ?_); simp -implicitDefEqProofs only [go_sem, ↓reduceIte, Nat.reduceEqDiff, Nat.reduceAdd, Nat.reduceMul, Nat.reduceLT, Nat.reduceLeDiff, reduceCtorEq, Int.toNat_natCast, e3', hz2, mkS_append, List.nil_append]; refine hK _ _ _ ?_; clear hE hK K E
      simp -implicitDefEqProofs only [go_sem, ↓reduceIte, Nat.reduceEqDiff, Nat.reduceAdd, Nat.reduceMul, Nat.reduceLT, Nat.reduceLeDiff, reduceCtorEq, Int.toNat_natCast]
      refine AWP.reg (by kernel_rfl) (fun E K hE hK => ?_); simp -implicitDefEqProofs only [go_sem, ↓reduceIte, Nat.reduceEqDiff, Nat.reduceAdd, Nat.reduceMul, Nat.reduceLT, Nat.reduceLeDiff, reduceCtorEq, Int.toNat_natCast, e8, hw1]; refine hK _ _ _ ?_; clear hE hK K E
      exact ⟨rfl, xs.length - 1, by omega, 1, by omega, rfl, rfl, by rw [hj]; simp -implicitDefEqProofs only [go_sem, ↓reduceIte, Nat.reduceEqDiff, Nat.reduceAdd, Nat.reduceMul, Nat.reduceLT, Nat.reduceLeDiff, reduceCtorEq, Int.toNat_natCast], by simp -implicitDefEqProofs only [go_sem, ↓reduceIte, Nat.reduceEqDiff, Nat.reduceAdd, Nat.reduceMul, Nat.reduceLT, Nat.reduceLeDiff, reduceCtorEq, Int.toNat_natCast, e6], by simp -implicitDefEqProofs only [go_sem, ↓reduceIte, Nat.reduceEqDiff, Nat.reduceAdd, Nat.reduceMul, Nat.reduceLT, Nat.reduceLeDiff, reduceCtorEq, Int.toNat_natCast, e7], by (first | (simp -implicitDefEqProofs only [go_sem, ↓reduceIte, Nat.reduceEqDiff, Nat.reduceAdd, Nat.reduceMul, Nat.reduceLT, Nat.reduceLeDiff, reduceCtorEq, Int.toNat_natCast]; done) | (simp -implicitDefEqProofs only [go_sem, ↓reduceIte, Nat.reduceEqDiff, Nat.reduceAdd, Nat.reduceMul, Nat.reduceLT, Nat.reduceLeDiff, reduceCtorEq, Int.toNat_natCast]; rfl) | rfl)⟩
  · refine AWP.ifF (by simp -implicitDefEqProofs only [go_sem, ↓reduceIte, Nat.reduceEqDiff, Nat.reduceAdd, Nat.reduceMul, Nat.reduceLT, Nat.reduceLeDiff, reduceCtorEq, Int.toNat_natCast, hlt]) ?_
    refine AWP.exit ?_
    simp -implicitDefEqProofs only [go_sem, ↓reduceIte, Nat.reduceEqDiff, Nat.reduceAdd, Nat.reduceMul, Nat.reduceLT, Nat.reduceLeDiff, reduceCtorEq, Int.toNat_natCast]
    have hii : i = xs.length := by omega
    subst hii
    rw [List.take_length] at e3
    refine AWP.seqReg (by kernel_rfl) (fun E K hE hK => ?_); simp -implicitDefEqProofs only [go_sem, ↓reduceIte, Nat.reduceEqDiff, Nat.reduceAdd, Nat.reduceMul, Nat.reduceLT, Nat.reduceLeDiff, reduceCtorEq, Int.toNat_natCast, e3]; refine hK _ _ _ ?_; clear hE hK K E
    refine AWP.ret ?_
    exact Ends.pure hn H (fun _ _ => rfl) (r0 := StrV (joinS xs)) (by rw [show Tryd.f32.results.toList = [.tmp 2] from rfl]; (first | (simp -implicitDefEqProofs only [go_sem, ↓reduceIte, Nat.reduceEqDiff, Nat.reduceAdd, Nat.reduceMul, Nat.reduceLT, Nat.reduceLeDiff, reduceCtorEq, Int.toNat_natCast]; done) | (simp -implicitDefEqProofs only [go_sem, ↓reduceIte, Nat.reduceEqDiff, Nat.reduceAdd, Nat.reduceMul, Nat.reduceLT, Nat.reduceLeDiff, reduceCtorEq, Int.toNat_natCast]; rfl) | rfl)) (.v _) ⟨rfl, rfl⟩

end Go.Proofs.YtdannmfdenlikaaDoor
