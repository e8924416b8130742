/-
  Walks of the reference for names: octets, Parts, join, Check, Folder; Walks of the reference for names: Parts, join; Walks of the reference for names: Clean; Walks of the reference for names: Check, Folder, Join, Split, Within, Less, Cmp.
-/
import Derived.Test.YtengjcdilnikhaaDoorNmC1
namespace Go.Proofs.YtengjcdilnikhaaDoor
set_option linter.unusedSimpArgs false
set_option linter.unusedVariables false
set_option linter.unnecessarySimpa false
open Go Am
set_option maxRecDepth 100000

def octsB (l : S) : Bool := l.all octB
def octI (s : ByteArray) (h : Heap) (i : Nat) (st : St) : Prop :=
  st.h = h ∧ st.t 0 = StrB s ∧ st.t 5 = IntV s.size ∧ st.t 6 = IntV i ∧ ∀ c ∈ (bl s).take i, octB c = true

theorem octets_ok (s : ByteArray) (hs : s.size ≤ 1000) (h : Heap) (b : Nat) : ACalls Tryd.prog 115 [StrB s] h b 0 (fun r h' => r = BoolV (octsB (bl s)) ∧ h' = h) := by
  refine ACalls.enter Tryd.func115 rfl (by simp [Tryd.ntmps115]) (fun ι w hn H => ?_)
  have hlen := bl_len s
  have fin : ∀ (t : Nat → AV) (n : Nat) (v : Bool), t 2 = BoolV v → v = octsB (bl s) → Am.Ends Tryd.prog ⟨Tryd.f115.ntmps, b, ι, h, w, x0⟩ Tryd.f115 0 (fun r h' => r = BoolV (octsB (bl s)) ∧ h' = h) ⟨t, h, n⟩ := by
    intro t n v ht hv
    exact Ends.pure hn H (fun _ _ => rfl) (r0 := BoolV v) (by rw [show Tryd.f115.results.toList = [.tmp 2] from rfl]; exact Ecf @ht) (.v _) ⟨by rw [hv], rfl⟩
  refine Rk ?_
  refine AWP.seq ?_
  refine Rk ?_
  refine AWP.block ?_
  refine AWP.loopK 0 (fun m st => ∃ i, i ≤ s.size ∧ m = s.size - i ∧ octI s h i st) s.size rfl ⟨0, Nat.zero_le _, rfl, rfl, by exact Ec, by exact Ec, by exact Er, by simp⟩ ?_
  rintro m ⟨t, hh, n⟩ ⟨i, hi, rfl, rfl, e0, e5, e6, hok⟩ hn1
  simp only at e0 e5 e6 hn1
  subst hn1
  refine Rkf (jn2 @e5 @e6) ?_
  refine AWP.seq ?_
  by_cases hlt : (i : Int) < s.size
  · refine Btf @hlt ?_
    refine AWP.skip ?_
    refine Ev ?_
    refine AWP.seq ?_
    refine AWP.block ?_
    refine Rkf (jn2 @e0 @e6) ?_
    obtain ⟨c, hc1, hc2⟩ := strAt_get s i (by omega)
    have next : ∀ (t' : Nat → AV), octB c = true → t' 0 = StrB s → t' 5 = IntV s.size → t' 6 = IntV (IntKind.i64.wrap ((i : Int) + 1)) → ∃ m', m' < s.size - i ∧ ∃ j, j ≤ s.size ∧ m' = s.size - j ∧ octI s hh j ⟨t', hh, 0⟩ := by
      intro t' ho e0' e5' e6'
      refine ⟨s.size - (i + 1), by omega, i + 1, by omega, rfl, rfl, e0', e5', ?_, ?_⟩
      · show t' 6 = _
        rw [e6', wrap_i64 (by omega) (by omega)]; rfl
      · intro x hx
        rw [List.take_add_one, hc1] at hx
        rcases List.mem_append.1 hx with hx | hx
        · exact hok x hx
        · simp at hx; subst hx; exact ho
    have bad : octB c = false → false = octsB (bl s) := by
      intro ho
      unfold octsB
      symm
      rw [← Bool.not_eq_true]
      intro hall
      have := List.all_eq_true.1 hall c (List.mem_of_getElem? hc1)
      rw [ho] at this; cases this
    have hbnd : (0 : Int) ≤ i ∧ (i : Int) < s.size := ⟨by omega, hlt⟩
    have h47 : ((c.toNat : Int) = 47) ↔ (c = 47) := by rw [← UInt8.toNat_inj]; have : (47 : UInt8).toNat = 47 := rfl; omega
    by_cases c1 : c = 47
    · have c1' : ((c.toNat : Int) = 47) := h47.2 c1
      have ho : octB c = true := by subst c1; rfl
      refine Rgf (jn4 @e0 @e6 @hc2 @c1') (fun E K hE hK => ?_)
      refine ⟨hbnd, ?_⟩
      refine hK _ _ _ ?_; clear hE hK K E
      refine Bf ?_
      refine AWP.skip ?_
      refine Ev ?_
      refine Raf @e6 (fun E K hE hK => ?_); refine hK _ _ _ ?_; clear hE hK K E
      exact ⟨rfl, next _ ho (by exact Ecf @e0) (by exact Ecf @e5) (by exact Ec)⟩
    · have c1' : ¬ ((c.toNat : Int) = 47) := fun e => c1 (h47.1 e)
      have c1b : (c == 47) = false := by simpa using c1
      by_cases c2 : (c.toNat : Int) < 33
      · have ho : octB c = false := by unfold octB; rw [c1b, decide_eq_false (by omega)]; rfl
        refine Rgf (jn5 @e0 @e6 @hc2 @c1' @c2) (fun E K hE hK => ?_)
        refine ⟨hbnd, hbnd, ?_⟩
        refine hK _ _ _ ?_; clear hE hK K E
        refine Bt ?_
        refine Rk ?_
        refine AWP.ret ?_
        refine Ev ?_
        exact fin _ _ false (by exact Er) (bad ho)
      · by_cases c3 : (126 : Int) < c.toNat
        · have ho : octB c = false := by unfold octB; rw [c1b, decide_eq_false (p := c.toNat < 127) (by omega), Bool.and_false]; rfl
          refine Rgf (jn6 @e0 @e6 @hc2 @c1' @c2 @c3) (fun E K hE hK => ?_)
          refine ⟨hbnd, hbnd, hbnd, ?_⟩
          refine hK _ _ _ ?_; clear hE hK K E
          refine Bt ?_
          refine Rk ?_
          refine AWP.ret ?_
          refine Ev ?_
          exact fin _ _ false (by exact Er) (bad ho)
        · have ho : octB c = true := by unfold octB; rw [c1b, decide_eq_true (p := c.toNat < 127) (by omega), decide_eq_true (by omega)]; rfl
          refine Rgf (jn6 @e0 @e6 @hc2 @c1' @c2 @c3) (fun E K hE hK => ?_)
          refine ⟨hbnd, hbnd, hbnd, ?_⟩
          refine hK _ _ _ ?_; clear hE hK K E
          refine Bf ?_
          refine AWP.skip ?_
          refine Ev ?_
          refine Raf @e6 (fun E K hE hK => ?_); refine hK _ _ _ ?_; clear hE hK K E
          exact ⟨rfl, next _ ho (by exact Ecf @e0) (by exact Ecf @e5) (by exact Ec)⟩
  · refine Bff @hlt ?_
    refine AWP.exit ?_
    refine Ev ?_
    refine Rk ?_
    refine AWP.ret ?_
    refine fin _ _ true (by exact Er) ?_
    have : i = s.size := by omega
    subst this
    rw [← hlen, List.take_length] at hok
    exact (List.all_eq_true.2 hok).symm

end Go.Proofs.YtengjcdilnikhaaDoor

namespace Go.Proofs.YtengjcdilnikhaaDoor
set_option linter.unusedSimpArgs false
set_option linter.unusedVariables false
set_option linter.unnecessarySimpa false
open Go Am
set_option maxRecDepth 100000

/-- an own row of texts -/
def StrRow (h : Heap) (id ver cap : Nat) (ds : List S) : Prop := ∃ T, h id = some ⟨ver, ds.map strC ++ T⟩ ∧ ds.length + T.length = cap ∧ lowCs 0 T = true

theorem strC_low (b : Nat) (ds : List S) : lowCs b (ds.map strC) = true := lowCs_of fun c hc => by obtain ⟨k, _, rfl⟩ := List.mem_map.1 hc; rfl

theorem StrRow.cut {h : Heap} {id ver cap m : Nat} {ds : List S} (r : StrRow h id ver cap ds) (hm : id < m) : StrRow (cutH m h) id ver cap ds := by
  obtain ⟨T, h1, h2, h3⟩ := r
  exact ⟨T, cutH_same hm h1 (lowCs_app (strC_low _ _) (lowCs_mono (Nat.zero_le _) h3)), h2, h3⟩

theorem StrRow.ne {h : Heap} {id ver cap i : Nat} {ds : List S} {blk : Blk} (r : StrRow h id ver cap ds) (hi : id ≠ i) : StrRow (upd h i blk) id ver cap ds := by
  obtain ⟨T, h1, h2, h3⟩ := r
  exact ⟨T, by rw [upd_ne _ _ _ _ hi]; exact h1, h2, h3⟩

theorem append_str {C : Ctx} {h : Heap} {n : Nat} {K : KT} {id ver cap id2 : Nat} {ds : List S} {p : S} (hr : StrRow h id ver cap ds) (h2 : h id2 = some ⟨0, [strC p]⟩) (hl : ds.length ≤ 100000)
    (k : ∀ cap' T', ds.length + 1 + T'.length = cap' → lowCs 0 T' = true → K (.one (.win id (ver + 1) 0 (ds.length + 1) cap')) (upd h id ⟨ver + 1, (ds ++ [p]).map strC ++ T'⟩) n) :
    BiK Tryd.prog C .append [23, 23] [.one (.win id ver 0 ds.length cap), .one (.win id2 0 0 1 1)] h n K := by
  obtain ⟨T, h1, h3, h4⟩ := hr
  refine BiK.append_own (e := 9) (sz := 1) (bytes := 16) (m := 1) (xs := [strC p]) (blk := ⟨ver, ds.map strC ++ T⟩) ty_slE_23 ty_tsz_9 ty_tzero_9 rfl ty_tby_9 ty_isIntT_23 h1 rfl
    (by simp; omega) (by simp [srcA, h2]) (by simp [okC, Value.oneCell']) (by omega) (by decide) (by omega) (fun cap' j q1 q2 => ?_)
  have e : List.take (ds.length * 1) (ds.map strC ++ T) ++ ([strC p] ++ List.replicate j Cell.junk) = (ds ++ [p]).map strC ++ List.replicate j .junk := by
    rw [Nat.mul_one, List.take_left' (by simp)]; simp
  rw [show (⟨ver, ds.map strC ++ T⟩ : Blk).cells = ds.map strC ++ T from rfl, e]
  exact k cap' _ (by rw [List.length_replicate]; omega) (lowCs_junk _ _)

theorem parts_snoc {a x : S} {ds : List S} {c : UInt8} (h : parts a = ds ++ [x]) (hc : c ≠ 47) : parts (a ++ [c]) = ds ++ [x ++ [c]] := by
  have hm : ∀ q ∈ ds ++ [x], (47 : UInt8) ∉ q := fun q hq => (mem_parts (by rw [h]; exact hq)).1
  have hx : (47 : UInt8) ∉ x ++ [c] := by
    intro e
    rcases List.mem_append.1 e with e | e
    · exact hm x (by simp) e
    · simp at e; exact hc e.symm
  have ha := joinS_parts a
  rw [h] at ha
  by_cases hd : ds = []
  · subst hd
    have : a = x := ha.symm
    rw [this, parts_one hx]; rfl
  · rw [joinS_app hd (by simp)] at ha
    have : a ++ [c] = joinS ds ++ 47 :: (x ++ [c]) := by rw [← ha]; simp [joinS]
    rw [this, parts_app, parts_joinS hd (fun q hq => hm q (by simp [hq])), parts_one hx]

/-- at the head of the loop of Parts -/
def prtI (s : ByteArray) (h : Heap) (b i : Nat) (st : St) : Prop :=
  ∃ ver cap ds f, StrRow st.h b ver cap ds ∧ (∀ id, id < b → st.h id = h id) ∧ st.t 0 = StrB s ∧ st.t 3 = .one (.win b ver 0 ds.length cap) ∧ st.t 4 = IntV (f : Nat) ∧ st.t 7 = IntV s.size ∧ st.t 8 = IntV (i : Nat) ∧ f ≤ i ∧
    parts ((bl s).take i) = ds ++ [((bl s).take i).drop f]

theorem parts_step {l ds : List _} {f i : Nat} {c : UInt8} (hf : f ≤ i) (hi : l[i]? = some c) (h : parts (l.take i) = ds ++ [(l.take i).drop f]) :
    parts (l.take (i + 1)) = if c = 47 then (ds ++ [(l.take i).drop f]) ++ [(l.take (i + 1)).drop (i + 1)] else ds ++ [(l.take (i + 1)).drop f] := by
  have ht : l.take (i + 1) = l.take i ++ [c] := by rw [List.take_add_one, hi]; rfl
  have hlt : i < l.length := (List.getElem?_eq_some_iff.1 hi).1
  split
  · rename_i hc
    subst hc
    rw [ht, parts_app (l.take i) [], h, List.drop_of_length_le (l := l.take i ++ [47]) (by simp; omega)]; rfl
  · rename_i hc
    rw [ht, parts_snoc h hc, List.drop_append_of_le_length (by simp; omega)]

theorem ext_mid (s : ByteArray) (f i : Nat) (hf : f ≤ i) : s.extract f i = mkS (((bl s).take i).drop f) := by
  have := mkS_extract (bl s) f i
  rw [mkS_of] at this
  rw [this, List.drop_take]

theorem Parts_ok (s : ByteArray) (hs : s.size ≤ 1000) (h : Heap) (b : Nat) : ACalls Tryd.prog 116 [StrB s] h b 0 (fun r h' => r = ListV (parts (bl s)) ∧ h' = h) := by
  refine ACalls.enter Tryd.func116 rfl (by simp [Tryd.ntmps116]) (fun ι w hn H => ?_)
  have hlow := H.lowCells
  have hlen := bl_len s
  refine Rk ?_
  refine Rk ?_
  refine AWP.virt 3 (by exact Er) ?_
  refine Ev ?_
  refine Rk ?_
  refine AWP.seq ?_
  refine Rk ?_
  refine AWP.block ?_
  refine AWP.loopM 1 (fun m st => ∃ i, i ≤ s.size ∧ m = s.size - i ∧ prtI s h b i st) s.size rfl ⟨0, Nat.zero_le _, rfl, 0, 0, [], 0, ⟨[], by exact Er, rfl, rfl⟩, Ou, by exact Er, by exact Er, by exact Er, by exact Er, by exact Er, Nat.le_refl _, rfl⟩ ?_
  rintro m ⟨t, hh, n⟩ ⟨i, hi, rfl, ver, cap, ds, f, hr, ho, e0, e3, e4, e7, e8, hf, hp⟩ hn1
  simp only at hr ho e0 e3 e4 e7 e8 hn1
  subst hn1
  have hds : ds.length ≤ 1001 := by
    have h1 := parts_len ((bl s).take i)
    rw [hp, List.length_append, List.length_take] at h1
    simp at h1; omega
  refine Rkf (jn2 @e7 @e8) ?_
  refine AWP.seq ?_
  by_cases hlt : (i : Int) < s.size
  · refine Btf @hlt ?_
    refine AWP.skip ?_
    refine Ev ?_
    refine AWP.seq ?_
    refine AWP.block ?_
    refine Rkf @e8 ?_
    obtain ⟨c, hc1, hc2⟩ := strAt_get s i (by omega)
    have hstep := parts_step hf hc1 hp
    have h47 : ((c.toNat : Int) = 47) ↔ (c = 47) := by rw [← UInt8.toNat_inj]; have : (47 : UInt8).toNat = 47 := rfl; omega
    have hw1 : IntKind.i64.wrap ((i : Int) + 1) = ((i + 1 : Nat) : Int) := by rw [wrap_i64 (by omega) (by omega)]; rfl
    refine Rgf (jn3 @e0 @e8 @hc2) (fun E K hE hK => ?_)
    refine ⟨⟨by omega, hlt⟩, ?_⟩
    refine hK _ _ _ ?_; clear hE hK K E
    by_cases c1 : c = 47
    · have c1' : ((c.toNat : Int) = 47) := h47.2 c1
      rw [if_pos c1] at hstep
      refine Btf @c1' ?_
      have hfi : (f : Int) ≤ i := by omega
      refine AWP.seqReg (by kernel_rfl) (fun E K hE hK => ?_); simp -implicitDefEqProofs only [go_sem, ↓reduceIte, Nat.reduceEqDiff, Nat.reduceAdd, Nat.reduceLT, Nat.reduceLeDiff, reduceCtorEq, Int.toNat_natCast, e0, e3, e4, ext_mid s f i hf]
      refine ⟨rfl, ⟨by omega, by omega⟩, ⟨by omega, by omega⟩, ?_⟩
      refine BiR.of ?_
      refine append_str (p := ((bl s).take i).drop f) (hr.ne (by omega)) (by exact Er) (by omega) (fun cap' T' q1 q2 => ?_)
      refine Ev ?_
      refine hK _ _ _ ?_; clear hE hK K E
      refine Raf @hw1 (fun E K hE hK => ?_); refine hK _ _ _ ?_; clear hE hK K E
      refine Ev ?_
      refine Raf (jn2 @e8 @hw1) (fun E K hE hK => ?_); refine hK _ _ _ ?_; clear hE hK K E
      refine ⟨(by decide : 1 ≤ 2), _, ?_, i + 1, by omega, rfl, ver + 1, cap', ds ++ [((bl s).take i).drop f], i + 1, StrRow.cut ⟨T', by exact Er, by simpa using q1, q2⟩ (Nat.lt_succ_self _), cutH_outer (Nat.le_succ _) (Ouf @ho) hlow, by exact Ecf @e0, ?_, by exact Ec, by exact Ecf @e7, by exact Ec, Nat.le_refl _, hstep⟩
      · omega
      · rw [List.length_append]; refine Ev ?_; exact cutV_win (Nat.lt_succ_self _)
    · have c1' : ¬ ((c.toNat : Int) = 47) := fun e => c1 (h47.1 e)
      rw [if_neg c1] at hstep
      refine Bff @c1' ?_
      refine AWP.skip ?_
      refine Ev ?_
      refine Raf (jn2 @e8 @hw1) (fun E K hE hK => ?_); refine hK _ _ _ ?_; clear hE hK K E
      refine ⟨Nat.le_refl _, _, ?_, i + 1, by omega, rfl, ver, cap, ds, f, hr.cut (Nat.lt_succ_self _), cutH_outer (Nat.le_succ _) ho hlow, by exact Ecf @e0, by refine Evf @e3 ?_; exact cutV_win (Nat.lt_succ_self _), by exact Ecf @e4, by exact Ecf @e7, by exact Ec, by omega, hstep⟩
      omega
  · refine Bff @hlt ?_
    refine AWP.exit ?_
    refine Ev ?_
    have hii : i = s.size := by omega
    subst hii
    rw [← hlen, List.take_length] at hp
    have hfs : (f : Int) ≤ s.size := by omega
    have hx : s.extract f s.size = mkS ((bl s).drop f) := ext_drop s f
    refine Rgf (jn4 @e0 @e3 @e4 @hx) (fun E K hE hK => ?_)
    refine ⟨rfl, ⟨by omega, by omega⟩, ?_⟩
    refine BiR.of ?_
    refine append_str (p := (bl s).drop f) (hr.ne (by omega)) (by exact Er) (by omega) (fun cap' T' q1 q2 => ?_)
    refine Ev ?_
    refine hK _ _ _ ?_; clear hE hK K E
    refine AWP.ret ?_
    have hlp : ds.length + 1 = ((parts (bl s)).map encS).length := by rw [List.length_map, hp]; simp
    refine Ends.pure hn H (Ouf @ho) (r0 := .one (.win b (ver + 1) 0 ((parts (bl s)).map encS).length cap')) (by rw [show Tryd.f116.results.toList = [.tmp 2] from rfl, ← hlp]; exact Er) (.one (frz_row0 (sz := 1) (es := (parts (bl s)).map encS) (T := T') (Nat.le_refl _) (by rw [rowB, flat_str, hp]; exact Er) (okEs_str _))) ⟨rfl, rfl⟩

/-- at the head of the loop of join -/
def jonI (xs : List S) (h : Heap) (i : Nat) (st : St) : Prop :=
  st.h = h ∧ st.t 3 = StrV (joinS (xs.take i)) ∧ st.t 6 = ListV xs ∧ st.t 7 = IntV xs.length ∧ st.t 8 = IntV (i : Nat)

theorem wt_take (xs : List S) : ∀ i, wt (xs.take i) ≤ wt xs := by
  induction xs with
  | nil => intro i; simp
  | cons x xs ih => intro i; cases i with
                    | zero => simp [wt]
                    | succ i => rw [List.take_succ_cons]; have := ih i; simp only [wt]; omega

theorem joinL_ok (xs : List S) (hx : wt xs ≤ 10000) (h : Heap) (b : Nat) : ACalls Tryd.prog 124 [ListV xs] h b 0 (fun r h' => r = StrV (joinS xs) ∧ h' = h) := by
  refine ACalls.enter Tryd.func124 rfl (by simp [Tryd.ntmps124]) (fun ι w hn H => ?_)
  have hlx := len_wt xs
  refine Rk ?_
  refine Rk ?_
  refine AWP.seq ?_
  refine Rk ?_
  refine AWP.block ?_
  refine AWP.loopK 0 (fun m st => ∃ i, i ≤ xs.length ∧ m = xs.length - i ∧ jonI xs h i st) xs.length rfl ⟨0, Nat.zero_le _, rfl, rfl, by exact Er, by exact Er, by exact Er, by exact Er⟩ ?_
  rintro m ⟨t, hh, n⟩ ⟨i, hi, rfl, rfl, e3, e6, e7, e8⟩ hn1
  simp only at e3 e6 e7 e8 hn1
  subst hn1
  have hjl : (joinS (xs.take i)).length ≤ 10000 := by
    by_cases h0 : xs.take i = []
    · rw [h0]; simp [joinS]
    · have := joinS_wt h0
      have := wt_take xs i
      omega
  refine Rkf (jn2 @e7 @e8) ?_
  refine AWP.seq ?_
  by_cases hlt : (i : Int) < xs.length
  · refine Btf @hlt ?_
    refine AWP.skip ?_
    refine Ev ?_
    refine AWP.seq ?_
    refine AWP.block ?_
    have hi2 : i < xs.length := by omega
    have hxi : xs[i].length ≤ 10000 := by
      have h1 := wt_take xs (i + 1)
      rw [List.take_add_one, List.getElem?_eq_getElem hi2, wt_app] at h1
      simp only [Option.toList_some, wt] at h1
      omega
    have hw1 : IntKind.i64.wrap ((i : Int) + 1) = ((i + 1 : Nat) : Int) := by rw [wrap_i64 (by omega) (by omega)]; rfl
    refine AWP.seqReg (by kernel_rfl) (fun E K hE hK => ?_); simp -implicitDefEqProofs only [go_sem, ↓reduceIte, Nat.reduceEqDiff, Nat.reduceAdd, Nat.reduceLT, Nat.reduceLeDiff, reduceCtorEq, Int.toNat_natCast, e6, e8, List.length_map, hlt, encS_getD xs i hi2]
    refine ⟨by omega, ?_⟩
    refine hK _ _ _ ?_; clear hE hK K E
    refine AWP.seq ?_
    refine Rk ?_
    have hs1 : (#[(47 : UInt8)] : Array UInt8).size = 1 := rfl
    have e47 : (⟨#[47]⟩ : ByteArray) = mkS [47] := rfl
    by_cases h0 : 0 < i
    · have h0' : (0 : Int) < i := by omega
      have hne : xs.take i ≠ [] := by intro e; have := congrArg List.length e; rw [List.length_take, List.length_nil] at this; omega
      have hj : joinS (xs.take (i + 1)) = joinS (xs.take i) ++ [47] ++ xs[i] := by
        rw [List.take_add_one, List.getElem?_eq_getElem hi2, Option.toList_some, joinS_app hne (by simp)]; simp [joinS]
      have hz1 : (mkS (joinS (xs.take i))).size + (#[(47 : UInt8)] : Array UInt8).size ≤ 9223372036854775807 := by rw [mkS_size]; omega
      have hz2 : (mkS (joinS (xs.take i) ++ [47])).size + (mkS xs[i]).size ≤ 9223372036854775807 := by rw [mkS_size, mkS_size]; simp; omega
      have hcat : mkS (joinS (xs.take i)) ++ (⟨#[47]⟩ : ByteArray) = mkS (joinS (xs.take i) ++ [47]) := by rw [e47, mkS_append]
      refine Btf @h0' ?_
      refine Raf (jn3 @e3 @hz1 @hcat) (fun E K hE hK => ?_); refine hK _ _ _ ?_; clear hE hK K E
      refine Ev ?_
      refine Raf (jn2 @hz2 @mkS_append) (fun E K hE hK => ?_); refine hK _ _ _ ?_; clear hE hK K E
      refine Ev ?_
      refine Raf (jn2 @e8 @hw1) (fun E K hE hK => ?_); refine hK _ _ _ ?_; clear hE hK K E
      exact ⟨rfl, xs.length - (i + 1), by omega, i + 1, by omega, rfl, rfl, by rw [hj]; exact Ec, by exact Ecf @e6, by exact Ecf @e7, by exact Ec⟩
    · have h0' : ¬ (0 : Int) < i := by omega
      have hi0 : i = 0 := by omega
      subst hi0
      have hj : joinS (xs.take 1) = xs[0] := by
        rw [List.take_add_one, List.getElem?_eq_getElem hi2]; simp [joinS]
      have e3' : t 3 = StrV [] := e3
      have hz2 : (mkS []).size + (mkS xs[0]).size ≤ 9223372036854775807 := by rw [mkS_size, mkS_size]; simp only [List.length_nil]; omega
      refine Bsf @h0' ?_
      refine Raf (jn3 @e3' @hz2 @mkS_append) (fun E K hE hK => ?_); refine hK _ _ _ ?_; clear hE hK K E
      refine Ev ?_
      refine Raf (jn2 @e8 @hw1) (fun E K hE hK => ?_); refine hK _ _ _ ?_; clear hE hK K E
      exact ⟨rfl, xs.length - 1, by omega, 1, by omega, rfl, rfl, by rw [hj]; exact Ec, by exact Ecf @e6, by exact Ecf @e7, by exact Er⟩
  · refine Bff @hlt ?_
    refine AWP.exit ?_
    refine Ev ?_
    have hii : i = xs.length := by omega
    subst hii
    rw [List.take_length] at e3
    refine Rkf @e3 ?_
    refine AWP.ret ?_
    exact Ends.pure hn H (fun _ _ => rfl) (r0 := StrV (joinS xs)) (by rw [show Tryd.f124.results.toList = [.tmp 2] from rfl]; exact Er) (.v _) ⟨rfl, rfl⟩

end Go.Proofs.YtengjcdilnikhaaDoor

namespace Go.Proofs.YtengjcdilnikhaaDoor
set_option linter.unusedSimpArgs false
set_option linter.unusedVariables false
set_option linter.unnecessarySimpa false
open Go Am
set_option maxRecDepth 100000

theorem fitsX_cases (l : S) : fitsX l = if 96 < l.length then 3 else if octsB l = true then 0 else 2 := rfl

theorem goC_step (kept : List S) (ps : List S) (i : Nat) (h : i < ps.length) : goC kept (ps.drop i) = match stepC kept ps[i] with
    | some k => goC k (ps.drop (i + 1))
    | none => none := by
  rw [List.drop_eq_getElem_cons h]; rfl

/-- at the head of the loop of the reference's Clean -/
def rclI (l : S) (h : Heap) (b i : Nat) (st : St) : Prop :=
  ∃ ver cap ks, goC [] (parts l) = goC ks ((parts l).drop i) ∧ StrRow st.h b ver cap ks ∧ (∀ id, id < b → st.h id = h id) ∧ st.t 4 = .one (.win b ver 0 ks.length cap) ∧ st.t 14 = ListV (parts l) ∧
    st.t 15 = IntV (parts l).length ∧ st.t 16 = IntV (i : Nat) ∧ ks.length ≤ i ∧ wt ks ≤ wt ((parts l).take i)

theorem wt_take_succ (xs : List S) (i : Nat) (h : i < xs.length) : wt (xs.take (i + 1)) = wt (xs.take i) + wt [xs[i]] := by
  rw [List.take_add_one, List.getElem?_eq_getElem h, wt_app]; rfl


end Go.Proofs.YtengjcdilnikhaaDoor

namespace Go.Proofs.YtengjcdilnikhaaDoor
set_option linter.unusedSimpArgs false
set_option linter.unusedVariables false
set_option linter.unnecessarySimpa false
open Go Am
set_option maxRecDepth 100000

theorem Cln_iff (l : S) : Cln l ↔ (¬ 96 < l.length ∧ octsB l = true ∧ ∀ q ∈ parts l, Good q) := by
  unfold Cln octsB
  rw [List.all_eq_true]
  constructor
  · rintro ⟨a, b, c⟩; exact ⟨by omega, b, c⟩
  · rintro ⟨a, b, c⟩; exact ⟨by omega, b, c⟩

def rckI (l : S) (h : Heap) (i : Nat) (st : St) : Prop :=
  st.h = h ∧ st.t 19 = ListV (parts l) ∧ st.t 20 = IntV (parts l).length ∧ st.t 21 = IntV (i : Nat) ∧ ∀ q ∈ (parts l).take i, Good q

theorem rCheck_ok (s : ByteArray) (hs : s.size ≤ 1000) (h : Heap) (b : Nat) : ACalls Tryd.prog 89 [StrB s] h b 0 (fun r h' => r = IntV (chkN (bl s)) ∧ h' = h) := by
  refine ACalls.enter Tryd.func89 rfl (by simp [Tryd.ntmps89]) (fun ι w hn H => ?_)
  have hlen := bl_len s
  have hpl := parts_len (bl s)
  have fin : ∀ (t : Nat → AV) (n : Nat) (v : Int), t 2 = IntV v → v = chkN (bl s) → Am.Ends Tryd.prog ⟨Tryd.f89.ntmps, b, ι, h, w, x0⟩ Tryd.f89 0 (fun r h' => r = IntV (chkN (bl s)) ∧ h' = h) ⟨t, h, n⟩ := by
    intro t n v ht hv
    exact Ends.pure hn H (fun _ _ => rfl) (r0 := IntV v) (by rw [show Tryd.f89.results.toList = [.tmp 2] from rfl]; exact Ecf @ht) (.v _) ⟨by rw [hv], rfl⟩
  have no : ¬ Cln (bl s) → 1 = chkN (bl s) := fun hc => by
    rcases chkN_or (bl s) with e | e
    · exact absurd (chkN_zero.1 e) hc
    · exact e.symm
  refine Rk ?_
  refine AWP.seq ?_
  by_cases h0 : (s.size : Int) < 1
  · have hc : ¬ Cln (bl s) := fun hc => Cln_ne hc (List.eq_nil_of_length_eq_zero (by omega))
    refine Rkf @h0 ?_
    refine Bt ?_
    refine Rk ?_
    refine AWP.ret ?_
    refine Ev ?_
    exact fin _ _ 1 (by exact Er) (no hc)
  by_cases h1 : (96 : Int) < s.size
  · have hc : ¬ Cln (bl s) := fun hc => ((Cln_iff _).1 hc).1 (by omega)
    refine Rkf (jn2 @h0 @h1) ?_
    refine Bt ?_
    refine Rk ?_
    refine AWP.ret ?_
    refine Ev ?_
    exact fin _ _ 1 (by exact Er) (no hc)
  by_cases h2 : octsB (bl s) = true
  case neg =>
    have h2' : octsB (bl s) = false := by simpa using h2
    have hc : ¬ Cln (bl s) := fun hc => h2 ((Cln_iff _).1 hc).2.1
    refine Rgf (jn2 @h0 @h1) (fun E K hE hK => ?_)
    refine Us (octets_ok s hs _ _) body_115 ?_
    refine Evf @h2' ?_
    refine hK _ _ _ ?_; clear hE hK K E
    refine Bt ?_
    refine Rk ?_
    refine AWP.ret ?_
    refine Ev ?_
    exact fin _ _ 1 (by exact Er) (no hc)
  refine Rgf (jn2 @h0 @h1) (fun E K hE hK => ?_)
  refine Us (octets_ok s hs _ _) body_115 ?_
  refine Evf @h2 ?_
  refine hK _ _ _ ?_; clear hE hK K E
  refine Bs ?_
  refine AWP.seq ?_
  refine Rg (fun E K hE hK => ?_)
  refine Us (Parts_ok s hs _ _) body_116 ?_
  refine hK _ _ _ ?_; clear hE hK K E
  refine AWP.block ?_
  refine AWP.loopK 0 (fun m st => ∃ i, i ≤ (parts (bl s)).length ∧ m = (parts (bl s)).length - i ∧ rckI (bl s) h i st) (parts (bl s)).length rfl ⟨0, Nat.zero_le _, rfl, rfl, by exact Er, by exact Er, by exact Er, by simp⟩ ?_
  rintro m ⟨t, hh, n⟩ ⟨i, hi, rfl, rfl, e19, e20, e21, hok⟩ hn1
  simp only at e19 e20 e21 hn1
  subst hn1
  have hw1 : IntKind.i64.wrap ((i : Int) + 1) = ((i + 1 : Nat) : Int) := by rw [wrap_i64 (by omega) (by omega)]; rfl
  refine Rkf (jn2 @e20 @e21) ?_
  refine AWP.seq ?_
  by_cases hlt : (i : Int) < (parts (bl s)).length
  · refine Btf @hlt ?_
    refine AWP.skip ?_
    refine Ev ?_
    refine AWP.seq ?_
    refine AWP.block ?_
    have hi2 : i < (parts (bl s)).length := by omega
    obtain ⟨p, hp⟩ : ∃ p, (parts (bl s))[i] = p := ⟨_, rfl⟩
    have hmem : p ∈ parts (bl s) := by rw [← hp]; exact List.getElem_mem hi2
    have hge : ((parts (bl s)).map encS).getD i [] = [.v (.string (mkS p))] := by rw [encS_getD _ i hi2, hp]
    have bad : ¬ Good p → 1 = chkN (bl s) := fun hb => no fun hc => hb (((Cln_iff _).1 hc).2.2 p hmem)
    refine Rgf (jn4 @e19 @e21 @hlt @hge) (fun E K hE hK => ?_)
    refine ⟨by omega, ?_⟩
    refine hK _ _ _ ?_; clear hE hK K E
    by_cases p0 : p = []
    · refine Rkf (jn3 @mkS_list @p0 @toL0) ?_
      refine Bt ?_
      refine Rk ?_
      refine AWP.ret ?_
      refine Ev ?_
      exact fin _ _ 1 (by exact Er) (bad (fun g => g.1 p0))
    by_cases p1 : p = [46]
    · refine Rkf (jn4 @mkS_list @p1 @toL0 @toL1) ?_
      refine Bt ?_
      refine Rk ?_
      refine AWP.ret ?_
      refine Ev ?_
      exact fin _ _ 1 (by exact Er) (bad (fun g => g.2.1 p1))
    by_cases p2 : p = [46, 46]
    · refine Rkf (jn6 @mkS_list @p2 @toL0 @toL1 @toL2 (show ¬ ([46, 46] : S) = [46] by decide)) ?_
      refine Bt ?_
      refine Rk ?_
      refine AWP.ret ?_
      refine Ev ?_
      exact fin _ _ 1 (by exact Er) (bad (fun g => g.2.2 p2))
    refine Rkf (jn7 @mkS_list @p0 @p1 @p2 @toL0 @toL1 @toL2) ?_
    refine Bf ?_
    refine AWP.skip ?_
    refine Ev ?_
    refine Raf (jn2 @e21 @hw1) (fun E K hE hK => ?_); refine hK _ _ _ ?_; clear hE hK K E
    refine ⟨rfl, (parts (bl s)).length - (i + 1), by omega, i + 1, by omega, rfl, rfl, by exact Ecf @e19, by exact Ecf @e20, by exact Ec, ?_⟩
    intro q hq
    rw [List.take_add_one, List.getElem?_eq_getElem hi2, hp] at hq
    rcases List.mem_append.1 hq with hq | hq
    · exact hok q hq
    · simp at hq; subst hq; exact ⟨p0, p1, p2⟩
  · refine Bff @hlt ?_
    refine AWP.exit ?_
    refine Ev ?_
    refine Rk ?_
    refine AWP.ret ?_
    refine fin _ _ 0 (by exact Er) ?_
    have : i = (parts (bl s)).length := by omega
    subst this
    rw [List.take_length] at hok
    exact (chkN_zero.2 ((Cln_iff _).2 ⟨by omega, h2, hok⟩)).symm

theorem rFolder_ok (s : ByteArray) (hs : s.size ≤ 1000) (h : Heap) (b : Nat) : ACalls Tryd.prog 97 [StrB s] h b 0 (fun r h' => r = BoolV (decide (folN (bl s) = 0)) ∧ h' = h) := by
  refine ACalls.enter Tryd.func97 rfl (by simp [Tryd.ntmps97]) (fun ι w hn H => ?_)
  have fin : ∀ (t : Nat → AV) (n : Nat) (v : Bool), t 2 = BoolV v → v = decide (folN (bl s) = 0) → Am.Ends Tryd.prog ⟨Tryd.f97.ntmps, b, ι, h, w, x0⟩ Tryd.f97 0 (fun r h' => r = BoolV (decide (folN (bl s) = 0)) ∧ h' = h) ⟨t, h, n⟩ := by
    intro t n v ht hv
    exact Ends.pure hn H (fun _ _ => rfl) (r0 := BoolV v) (by rw [show Tryd.f97.results.toList = [.tmp 2] from rfl]; exact Ecf @ht) (.v _) ⟨by rw [hv], rfl⟩
  refine Rk ?_
  by_cases h0 : bl s = []
  · refine Rkf (jn2 @h0 @toL0) ?_
    refine AWP.ret ?_
    exact fin _ _ true (by exact Er) (by unfold folN; rw [if_pos h0]; rfl)
  · refine Rgf (jn2 @h0 @toL0) (fun E K hE hK => ?_)
    refine Us (rCheck_ok s hs _ _) body_89 ?_
    refine hK _ _ _ ?_; clear hE hK K E
    refine AWP.ret ?_
    exact fin _ _ (decide (chkN (bl s) = 0)) (by exact Er) (by unfold folN; rw [if_neg h0])

theorem fol_size {d : ByteArray} (h : folN (bl d) = 0) : d.size ≤ 96 := by
  have hl := bl_len d
  rcases folN_zero.1 h with e | e
  · rw [← hl, e]; simp
  · rw [← hl]; exact e.1
theorem folN_or (d : S) : folN d = 0 ∨ folN d = 1 := by unfold folN; split; exact .inl rfl; exact chkN_or d


theorem split_parts {p : S} (h : chkN p = 0) : splitN p = (joinS (parts p).dropLast, (parts p).getLast (parts_ne p), 0) := by
  rcases split_cases h with ⟨e, hn⟩ | ⟨d, l, e, rfl, hn, cd, cl⟩
  · rw [e]
    have : parts p = [p] := parts_one hn
    simp [this, joinS]
  · rw [e]
    have hp : parts (d ++ 47 :: l) = parts d ++ [l] := by rw [parts_app, parts_one hn]
    simp [hp, joinS_parts]


/-- a part in front, cut off in parts -/
theorem rwithin {d p : S} (hd : Fol d) (hp : Cln p) (hne : d ≠ []) : (withinN d p).1 = (decide ((parts d).length < (parts p).length) && decide (joinS ((parts p).take (parts d).length) = d)) := by
  rw [withinN_ok hd hp]
  rw [Bool.eq_iff_iff]
  simp only [decide_eq_true_eq, Bool.and_eq_true]
  have hcd : Cln d := hd.resolve_left hne
  constructor
  · rintro (h | ⟨ps, hps, e⟩)
    · exact absurd h hne
    · have := List.length_pos_iff.2 hps
      rw [e]
      refine ⟨by simp; omega, ?_⟩
      rw [List.take_left' rfl, joinS_parts]
  · rintro ⟨h1, h2⟩
    refine .inr ⟨(parts p).drop (parts d).length, ?_, ?_⟩
    · intro e
      have := congrArg List.length e
      rw [List.length_drop, List.length_nil] at this
      omega
    · have hne2 : (parts p).take (parts d).length ≠ [] := by
        intro e
        have := congrArg List.length e
        have h0 := List.length_pos_iff.2 (parts_ne d)
        rw [List.length_take, List.length_nil] at this
        omega
      have : parts d = (parts p).take (parts d).length := by
        have := parts_joinS hne2 (fun q hq => (mem_parts (List.mem_of_mem_take hq)).1)
        rw [h2] at this
        exact this
      conv => rhs; lhs; rw [this]
      rw [List.take_append_drop]

theorem rWithin_ok (d p : ByteArray) (hd : d.size ≤ 1000) (hp : p.size ≤ 1000) (h : Heap) (b : Nat) : ACalls Tryd.prog 98 [StrB d, StrB p] h b 0 (fun r h' => r = .tup [BoolV (withinN (bl d) (bl p)).1, IntV (withinN (bl d) (bl p)).2] ∧ h' = h) := by
  refine ACalls.enter Tryd.func98 rfl (by simp [Tryd.ntmps98]) (fun ι w hn H => ?_)
  have fin : ∀ (t : Nat → AV) (n : Nat) (v : Bool × Int), t 4 = BoolV v.1 → t 5 = IntV v.2 → v = withinN (bl d) (bl p) → Am.Ends Tryd.prog ⟨Tryd.f98.ntmps, b, ι, h, w, x0⟩ Tryd.f98 0 (fun r h' => r = .tup [BoolV (withinN (bl d) (bl p)).1, IntV (withinN (bl d) (bl p)).2] ∧ h' = h) ⟨t, h, n⟩ := by
    intro t n v ht ht2 hv
    exact Ends.pure hn H (fun _ _ => rfl) (r0 := .tup [BoolV v.1, IntV v.2]) (by rw [show Tryd.f98.results.toList = [.tmp 4, .tmp 5] from rfl]; exact Ecf (jn2 @ht @ht2)) (frz_tup2 (.v _) (.v _)) ⟨by rw [hv], rfl⟩
  have hpl := parts_len (bl p)
  have hpd := parts_len (bl d)
  have hlp := bl_len p
  have hld := bl_len d
  refine Rk ?_
  refine AWP.seq ?_
  by_cases h1 : folN (bl d) = 0
  case neg =>
    refine Rg (fun E K hE hK => ?_)
    refine Us (rFolder_ok d hd _ _) body_97 ?_
    refine Evf @h1 ?_
    refine hK _ _ _ ?_; clear hE hK K E
    refine Bt ?_
    refine Rk ?_
    refine AWP.ret ?_
    refine Ev ?_
    exact fin _ _ (false, 1) (by exact Er) (by exact Er) (by unfold withinN; rw [if_pos (.inl h1)])
  by_cases h2 : chkN (bl p) = 0
  case neg =>
    refine Rg (fun E K hE hK => ?_)
    refine Us (rFolder_ok d hd _ _) body_97 ?_
    refine Evf @h1 ?_
    refine Us (rCheck_ok p hp _ _) body_89 ?_
    refine Evf @h2 ?_
    refine hK _ _ _ ?_; clear hE hK K E
    refine Bt ?_
    refine Rk ?_
    refine AWP.ret ?_
    refine Ev ?_
    exact fin _ _ (false, 1) (by exact Er) (by exact Er) (by unfold withinN; rw [if_pos (.inr h2)])
  refine Rg (fun E K hE hK => ?_)
  refine Us (rFolder_ok d hd _ _) body_97 ?_
  refine Evf @h1 ?_
  refine Us (rCheck_ok p hp _ _) body_89 ?_
  refine Evf @h2 ?_
  refine hK _ _ _ ?_; clear hE hK K E
  refine Bs ?_
  refine AWP.seq ?_
  refine Rk ?_
  by_cases h3 : bl d = []
  · refine Btf (jn2 @h3 @toL0) ?_
    refine Rk ?_
    refine AWP.ret ?_
    refine Ev ?_
    exact fin _ _ (true, 0) (by exact Er) (by exact Er) (by unfold withinN; rw [if_neg (by simp [h1, h2])]; simp [h3])
  · have hw := rwithin (folN_zero.1 h1) (chkN_zero.1 h2) h3
    have hw2 : (withinN (bl d) (bl p)).2 = 0 := by rw [withinN_ok (folN_zero.1 h1) (chkN_zero.1 h2)]
    refine Bsf (jn2 @h3 @toL0) ?_
    refine Rg (fun E K hE hK => ?_)
    refine Us (Parts_ok d hd _ _) body_116 ?_
    refine hK _ _ _ ?_; clear hE hK K E
    refine Rg (fun E K hE hK => ?_)
    refine Us (Parts_ok p hp _ _) body_116 ?_
    refine hK _ _ _ ?_; clear hE hK K E
    by_cases h4 : ((parts (bl d)).length : Int) < (parts (bl p)).length
    · have hwp := joinS_wt (parts_ne (bl p))
      rw [joinS_parts] at hwp
      have hwt := wt_take (parts (bl p)) (parts (bl d)).length
      refine Rgf @h4 (fun E K hE hK => ?_)
      refine ⟨⟨by omega, by omega⟩, ?_⟩
      rw [← List.map_take]
      refine Us (joinL_ok _ (by omega) _ _) body_124 ?_
      refine Evf @mkS_list ?_
      refine hK _ _ _ ?_; clear hE hK K E
      refine AWP.ret ?_
      refine fin _ _ (decide (joinS ((parts (bl p)).take (parts (bl d)).length) = bl d), 0) (by exact Er) (by exact Er) ?_
      refine Prod.ext ?_ hw2.symm
      rw [hw, decide_eq_true (show (parts (bl d)).length < (parts (bl p)).length by omega), Bool.true_and]
    · refine Rkf @h4 ?_
      refine AWP.ret ?_
      refine fin _ _ (false, 0) (by exact Er) (by exact Er) ?_
      refine Prod.ext ?_ hw2.symm
      rw [hw, decide_eq_false (show ¬ (parts (bl d)).length < (parts (bl p)).length by omega), Bool.false_and]

/-- at the head of the loop of Less -/
def lesI (xs ys : List S) (h : Heap) (i : Nat) (st : St) : Prop :=
  st.h = h ∧ st.t 5 = ListV xs ∧ st.t 6 = ListV ys ∧ st.t 7 = IntV (i : Nat) ∧ i ≤ xs.length ∧ i ≤ ys.length ∧ cmpP xs ys = cmpP (xs.drop i) (ys.drop i)

theorem rLess_ok (a c : ByteArray) (ha : a.size ≤ 1000) (hc : c.size ≤ 1000) (h : Heap) (b : Nat) : ACalls Tryd.prog 90 [StrB a, StrB c] h b 0 (fun r h' => r = BoolV (decide (cmpP (parts (bl a)) (parts (bl c)) < 0)) ∧ h' = h) := by
  refine ACalls.enter Tryd.func90 rfl (by simp [Tryd.ntmps90]) (fun ι w hn H => ?_)
  have hpa := parts_len (bl a)
  have hpc := parts_len (bl c)
  have hla := bl_len a
  have hlc := bl_len c
  refine Rk ?_
  refine Rg (fun E K hE hK => ?_)
  refine Us (Parts_ok a ha _ _) body_116 ?_
  refine hK _ _ _ ?_; clear hE hK K E
  refine Rg (fun E K hE hK => ?_)
  refine Us (Parts_ok c hc _ _) body_116 ?_
  refine hK _ _ _ ?_; clear hE hK K E
  obtain ⟨xs, hxs⟩ : ∃ xs, parts (bl a) = xs := ⟨_, rfl⟩
  obtain ⟨ys, hys⟩ : ∃ ys, parts (bl c) = ys := ⟨_, rfl⟩
  simp only [hxs, hys] at hpa hpc ⊢
  have fin : ∀ (t : Nat → AV) (n : Nat) (v : Bool), t 4 = BoolV v → v = decide (cmpP xs ys < 0) → Am.Ends Tryd.prog ⟨Tryd.f90.ntmps, b, ι, h, w, x0⟩ Tryd.f90 0 (fun r h' => r = BoolV (decide (cmpP xs ys < 0)) ∧ h' = h) ⟨t, h, n⟩ := by
    intro t n v ht hv
    exact Ends.pure hn H (fun _ _ => rfl) (r0 := BoolV v) (by rw [show Tryd.f90.results.toList = [.tmp 4] from rfl]; exact Ecf @ht) (.v _) ⟨by rw [hv], rfl⟩
  refine AWP.seq ?_
  refine Rk ?_
  refine AWP.block ?_
  refine AWP.loopK 0 (fun m st => ∃ i, m = xs.length - i ∧ lesI xs ys h i st) xs.length rfl ⟨0, rfl, rfl, by exact Er, by exact Er, by exact Er, Nat.zero_le _, Nat.zero_le _, rfl⟩ ?_
  rintro m ⟨t, hh, n⟩ ⟨i, rfl, rfl, e5, e6, e7, hi, hiy, hcm⟩ hn1
  simp only at e5 e6 e7 hn1
  subst hn1
  refine AWP.seq ?_
  have hw1 : IntKind.i64.wrap ((i : Int) + 1) = ((i + 1 : Nat) : Int) := by rw [wrap_i64 (by omega) (by omega)]; rfl
  have done : ¬ ((i : Int) < xs.length ∧ (i : Int) < ys.length) → decide ((xs.length : Int) < ys.length) = decide (cmpP xs ys < 0) := by
    intro hno
    rw [hcm, decide_eq_decide]
    by_cases hx : i < xs.length
    · have hyy : i = ys.length := by omega
      subst hyy
      rw [List.drop_length, List.drop_eq_getElem_cons hx]
      simp only [lexC]; omega
    · have hxx : i = xs.length := by omega
      subst hxx
      rw [List.drop_length]
      by_cases hy2 : xs.length < ys.length
      · rw [List.drop_eq_getElem_cons hy2]
        simp only [lexC]; omega
      · rw [(List.drop_of_length_le (by omega) : ys.drop xs.length = [])]
        simp only [lexC]; omega
  by_cases hlt : (i : Int) < xs.length
  · by_cases hlt2 : (i : Int) < ys.length
    · refine Rkf (jn5 @e5 @e6 @e7 @hlt @hlt2) ?_
      refine Bt ?_
      refine AWP.skip ?_
      refine Ev ?_
      refine AWP.seq ?_
      refine AWP.block ?_
      have hi2 : i < xs.length := by omega
      have hi3 : i < ys.length := by omega
      have hstep : cmpP xs ys = if cmpS xs[i] ys[i] ≠ 0 then cmpS xs[i] ys[i] else cmpP (xs.drop (i + 1)) (ys.drop (i + 1)) := by
        rw [hcm, List.drop_eq_getElem_cons hi2, List.drop_eq_getElem_cons hi3]; rfl
      refine AWP.seqRegD [] [] [] mixed (by kernel_rfl) (by kernel_rfl) (fun K hK => .inl ?_) (by kernel_rfl); simp -implicitDefEqProofs only [go_sem, ↓reduceIte, Nat.reduceEqDiff, Nat.reduceAdd, Nat.reduceLT, Nat.reduceLeDiff, reduceCtorEq, Int.toNat_natCast, e5, e6, e7, List.length_map, hlt, hlt2, encS_getD xs i hi2, encS_getD ys i hi3]
      refine ⟨by omega, by omega, ?_⟩
      refine hK _ _ _ ?_; clear hK K
      by_cases heq : xs[i] = ys[i]
      · have h0 := (cmpS_tot.eq0 xs[i] ys[i]).2 heq
        rw [if_neg (by simp [h0])] at hstep
        refine Bff (jn2 @mkS_list @heq) ?_
        refine AWP.skip ?_
        refine Ev ?_
        refine Raf (jn2 @e7 @hw1) (fun E K hE hK => ?_); refine hK _ _ _ ?_; clear hE hK K E
        exact ⟨rfl, xs.length - (i + 1), by omega, i + 1, rfl, rfl, by exact Ecf @e5, by exact Ecf @e6, by exact Ec, by omega, by omega, hstep⟩
      · have h0 : cmpS xs[i] ys[i] ≠ 0 := fun e => heq ((cmpS_tot.eq0 xs[i] ys[i]).1 e)
        rw [if_pos h0] at hstep
        refine Btf (jn2 @mkS_list @heq) ?_
        refine AWP.seqRegD [] [] [] mixed (by kernel_rfl) (by kernel_rfl) (fun K hK => .inl ?_) (by kernel_rfl); simp -implicitDefEqProofs only [go_sem, ↓reduceIte, Nat.reduceEqDiff, Nat.reduceAdd, Nat.reduceLT, Nat.reduceLeDiff, reduceCtorEq, Int.toNat_natCast, e5, e6, e7, List.length_map, hlt, hlt2, encS_getD xs i hi2, encS_getD ys i hi3]
        refine ⟨by omega, by omega, ?_⟩
        refine hK _ _ _ ?_; clear hK K
        refine AWP.ret ?_
        refine Ev ?_
        exact fin _ _ (Op.bytesLess xs[i] ys[i]) (by exact Er) (by rw [bytesLess_cmp, hstep])
    · refine Rkf (jn5 @e5 @e6 @e7 @hlt @hlt2) ?_
      refine Bf ?_
      refine AWP.exit ?_
      refine Ev ?_
      refine Rkf (jn2 @e5 @e6) ?_
      refine AWP.ret ?_
      exact fin _ _ _ (by exact Er) (done (fun e => hlt2 e.2))
  · refine Rkf (jn4 @e5 @e6 @e7 @hlt) ?_
    refine Bf ?_
    refine AWP.exit ?_
    refine Ev ?_
    refine Rkf (jn2 @e5 @e6) ?_
    refine AWP.ret ?_
    exact fin _ _ _ (by exact Er) (done (fun e => hlt e.1))


end Go.Proofs.YtengjcdilnikhaaDoor
