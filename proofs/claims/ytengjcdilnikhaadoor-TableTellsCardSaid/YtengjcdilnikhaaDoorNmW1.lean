/-
  Walks of package name: octet, fits, Clean; Walks of package name: Clean; Walks of package name: Check, folder, Join, Within, Split; the example.
-/
import Derived.Test.YtengjcdilnikhaaDoorNmSeq
namespace Go.Proofs.YtengjcdilnikhaaDoor
set_option linter.unusedSimpArgs false
set_option linter.unusedVariables false
set_option linter.unnecessarySimpa false
open Go Am
set_option maxRecDepth 100000

theorem octet_ok (c : UInt8) (h : Heap) (b : Nat) : ACalls Tryd.prog 127 [U8V c] h b 0 (fun r h' => r = BoolV (octB c) ∧ h' = h) := by
  refine ACalls.enter Tryd.func127 rfl (by simp [Tryd.ntmps127]) (fun ι w hn H => ?_)
  have fin : ∀ (t : Nat → AV) (n : Nat) (v : Bool), t 2 = BoolV v → v = octB c → Am.Ends Tryd.prog ⟨Tryd.f127.ntmps, b, ι, h, w, x0⟩ Tryd.f127 0 (fun r h' => r = BoolV (octB c) ∧ h' = h) ⟨t, h, n⟩ := by
    intro t n v ht hv
    exact Ends.pure hn H (fun _ _ => rfl) (r0 := BoolV v) (by rw [show Tryd.f127.results.toList = [.tmp 2] from rfl]; exact Ecf @ht) (.v _) ⟨by rw [hv], rfl⟩
  refine Rk ?_
  have hs : ((strAt ⟨#[47]⟩ (Int.toNat 0) : Int)) = 47 := rfl
  have h47 : ((c.toNat : Int) = 47) ↔ (c = 47) := by rw [← UInt8.toNat_inj]; have : (47 : UInt8).toNat = 47 := rfl; omega
  refine Rgf @hs (fun E K hE hK => ?_)
  refine ⟨by decide, ⟨fun h1 => ?_, fun h1 => ?_⟩⟩
  · refine hK _ _ _ ?_; clear hE hK K E
    refine AWP.ret (fin _ _ true (by exact Ec) ?_)
    have : c = 47 := h47.1 (by simpa using h1)
    subst this; rfl
  · have h1' : ¬ c = 47 := fun e => by rw [h47.2 e] at h1; simp at h1
    have h3 : (c == 47) = false := by simpa using h1'
    refine ⟨fun h2 => ?_, fun h2 => ?_⟩
    · refine hK _ _ _ ?_; clear hE hK K E
      refine AWP.ret (fin _ _ _ (by exact Er) ?_)
      unfold octB
      rw [h3, Bool.false_or]
      have h2 : 32 < c.toNat := by have := of_decide_eq_true h2; omega
      rw [decide_eq_true h2, Bool.true_and]
      exact decide_eq_decide.2 (by omega)
    · refine hK _ _ _ ?_; clear hE hK K E
      refine AWP.ret (fin _ _ _ (by exact Er) ?_)
      unfold octB
      rw [h3, Bool.false_or]
      have h2 : ¬ 32 < c.toNat := by have := of_decide_eq_false h2; omega
      rw [decide_eq_false h2, Bool.false_and]

/-- at the head of the loop of fits -/
def fitI (s : ByteArray) (h : Heap) (i : Nat) (st : St) : Prop :=
  st.h = h ∧ st.t 0 = StrB s ∧ st.t 8 = IntV s.size ∧ st.t 9 = IntV i ∧ ∀ c ∈ (bl s).take i, octB c = true

theorem strAt_get (s : ByteArray) (i : Nat) (hi : i < s.size) : ∃ c, (bl s)[i]? = some c ∧ strAt s i = (c.toNat : Int) := by
  have hl : i < (bl s).length := by rw [Array.length_toList]; exact hi
  refine ⟨(bl s)[i], List.getElem?_eq_getElem hl, ?_⟩
  unfold strAt
  rw [List.getD_eq_getElem?_getD, List.getElem?_eq_getElem hl]; rfl

theorem fits_ok (s : ByteArray) (h : Heap) (b : Nat) : ACalls Tryd.prog 106 [StrB s] h b 0 (fun r h' => r = IntV (fitsX (bl s)) ∧ h' = h) := by
  refine ACalls.enter Tryd.func106 rfl (by simp [Tryd.ntmps106]) (fun ι w hn H => ?_)
  have hlow := H.lowCells
  have hlen : (bl s).length = s.size := Array.length_toList
  have fin : ∀ (t : Nat → AV) (n : Nat) (v : Int), t 2 = IntV v → v = fitsX (bl s) → Am.Ends Tryd.prog ⟨Tryd.f106.ntmps, b, ι, h, w, x0⟩ Tryd.f106 0 (fun r h' => r = IntV (fitsX (bl s)) ∧ h' = h) ⟨t, h, n⟩ := by
    intro t n v ht hv
    exact Ends.pure hn H (fun _ _ => rfl) (r0 := IntV v) (by rw [show Tryd.f106.results.toList = [.tmp 2] from rfl]; exact Ecf @ht) (.v _) ⟨by rw [hv], rfl⟩
  refine Rk ?_
  refine AWP.seq ?_
  refine Rk ?_
  by_cases h1 : (96 : Int) < s.size
  · refine Btf @h1 ?_
    refine Rk ?_
    refine AWP.ret ?_
    refine Ev ?_
    exact fin _ _ 3 (by exact Ec) (by unfold fitsX; rw [if_pos (by omega)])
  · refine Bsf @h1 ?_
    refine AWP.seq ?_
    refine Rk ?_
    refine AWP.block ?_
    refine AWP.loopK 0 (fun m st => ∃ i, i ≤ s.size ∧ m = s.size - i ∧ fitI s h i st) s.size rfl ⟨0, Nat.zero_le _, rfl, rfl, by exact Ec, by exact Ec, by exact Er, by simp⟩ ?_
    rintro m ⟨t, hh, n⟩ ⟨i, hi, rfl, rfl, e0, e8, e9, hok⟩ hn1
    simp only at e0 e8 e9 hn1
    subst hn1
    refine Rkf (jn3 @e0 @e8 @e9) ?_
    by_cases hlt : (i : Int) < s.size
    · refine AWP.seq ?_
      refine Btf @hlt ?_
      refine AWP.skip ?_
      refine Ev ?_
      refine AWP.seq ?_
      refine AWP.block ?_
      refine Rkf (jn3 @e0 @e8 @e9) ?_
      obtain ⟨c, hc1, hc2⟩ := strAt_get s i (by omega)
      refine Rgf (jn4 @e0 @e8 @e9 @hc2) (fun E K hE hK => ?_)
      refine ⟨⟨by omega, by omega⟩, ?_⟩
      refine Us (octet_ok c _ _) body_127 ?_
      refine hK _ _ _ ?_; clear hE hK K E
      by_cases ho : octB c = true
      · refine Bsf @ho ?_
        refine Raf @e9 (fun E K hE hK => ?_); refine hK _ _ _ ?_; clear hE hK K E
        refine ⟨rfl, s.size - (i + 1), by omega, i + 1, by omega, rfl, rfl, by exact Ecf @e0, by exact Ecf @e8, ?_, ?_⟩
        · refine Ev ?_; rw [wrap_i64 (by omega) (by omega)]; rfl
        · intro x hx
          rw [List.take_add_one, hc1] at hx
          rcases List.mem_append.1 hx with hx | hx
          · exact hok x hx
          · simp at hx; subst hx; exact ho
      · have ho : octB c = false := by simpa using ho
        refine Btf @ho ?_
        refine Rk ?_
        refine AWP.ret ?_
        refine Ev ?_
        refine fin _ _ 2 (by exact Ec) ?_
        unfold fitsX
        rw [if_neg (by omega), if_neg]
        intro hall
        have := List.all_eq_true.1 hall c (List.mem_of_getElem? hc1)
        rw [ho] at this; cases this
    · refine AWP.seq ?_
      refine Bff @hlt ?_
      refine AWP.exit ?_
      refine Ev ?_
      refine Rk ?_
      refine AWP.ret ?_
      refine Ev ?_
      refine fin _ _ 0 (by exact Ec) ?_
      have : i = s.size := by omega
      subst this
      rw [← hlen, List.take_length] at hok
      unfold fitsX
      rw [if_neg (by omega), if_pos (List.all_eq_true.2 hok)]

end Go.Proofs.YtengjcdilnikhaaDoor

namespace Go.Proofs.YtengjcdilnikhaaDoor
set_option linter.unusedSimpArgs false
set_option linter.unusedVariables false
set_option linter.unnecessarySimpa false
open Go Am
set_option maxRecDepth 100000

abbrev strC (k : S) : Cell := .p (.v (.string (mkS k)))
/-- the parts d were seen -/
def clnJ (h : Heap) (b : Nat) (d : List S) (hh : Heap) : Prop :=
  ∃ ver cap ks T, goC [] d = some ks ∧ hh (b + 2) = some ⟨0, [.win (b + 3) ver 0 ks.length cap]⟩ ∧ hh (b + 3) = some ⟨ver, ks.map strC ++ T⟩ ∧ ks.length + T.length = cap ∧ lowCs 0 T = true ∧
    hh b = some (sB (mkS [])) ∧ hh (b + 1) = some (iB 0) ∧ (∀ id, id < b → hh id = h id)
/-- there was no way up -/
def clnS (h : Heap) (b : Nat) (l : S) (hh : Heap) : Prop := goC [] (parts l) = none ∧ hh b = some (sB (mkS [])) ∧ hh (b + 1) = some (iB 4) ∧ (∀ id, id < b → hh id = h id)

theorem empty_mkS : ByteArray.empty = mkS [] := rfl
theorem nil_mkS : (⟨#[]⟩ : ByteArray) = mkS [] := rfl
theorem toL1 (c : UInt8) : (#[c] : Array UInt8).toList = [c] := rfl
theorem toL2 (c d : UInt8) : (#[c, d] : Array UInt8).toList = [c, d] := rfl
theorem toL0 : (#[] : Array UInt8).toList = [] := rfl

theorem Clean_ok (s : ByteArray) (h : Heap) (b : Nat) : ACalls Tryd.prog 72 [StrB s] h b 0 (fun r h' => r = .tup [StrV (cleanX (bl s)).1, IntV (cleanX (bl s)).2] ∧ h' = h) := by
  refine ACalls.enterM Tryd.func72 rfl (by simp [Tryd.ntmps72]) (fun ι w hn H => ?_)
  have hlow := H.lowCells
  generalize hC : (⟨Tryd.f72.ntmps, b, ι, h, w, ⟨[], none, EM Tryd.prog Tryd.f72 0 (fun r h' => r = .tup [StrV (cleanX (bl s)).1, IntV (cleanX (bl s)).2] ∧ h' = h) ι h b w⟩⟩ : Ctx) = C
  have fin : ∀ (t : Nat → AV) (hh : Heap) (n : Nat) (v : S × Int), t 2 = .one (.ptr b 0 0) → t 3 = .one (.ptr (b + 1) 0 0) → hh b = some (sB (mkS v.1)) → hh (b + 1) = some (iB v.2) → (∀ id, id < b → hh id = h id) → v = cleanX (bl s) →
      Am.Ends Tryd.prog C Tryd.f72 0 (fun r h' => r = .tup [StrV (cleanX (bl s)).1, IntV (cleanX (bl s)).2] ∧ h' = h) ⟨t, hh, n⟩ := by
    intro t hh n v e2 e3 h2 h3 ho hv
    subst hC
    subst hv
    exact Ends.pure hn H ho (r0 := .tup [StrV (cleanX (bl s)).1, IntV (cleanX (bl s)).2]) (by rw [show Tryd.f72.results.toList = [.cell 2 9, .cell 3 30] from rfl]; exact Ecf (jn4 @e2 @e3 @h2 @h3)) (frz_tup2 (.v _) (.v _)) ⟨rfl, rfl⟩
  subst hC
  refine Rk ?_
  refine AWP.seq ?_
  refine Rg (fun E K hE hK => ?_)
  refine Us (fits_ok s _ _) body_106 ?_
  refine hK _ _ _ ?_; clear hE hK K E
  refine Rk ?_
  by_cases h1 : fitsX (bl s) = 0
  · refine Bsf @h1 ?_
    refine Rk ?_
    refine AWP.virtH (b + 2) 0 (by simp) (by exact Er) rfl ?_
    refine Ev ?_
    refine AWP.rangeBlk (gf := 140) (caps := [.ptr (b + 5) 0 0, .ptr (b + 4) 0 0, .ptr (b + 6) 0 0]) (Hdone := clnJ h b (parts (bl s))) (Hstop := clnS h b (bl s)) rfl ?_
    refine Ra (fun E K hE hK => ?_)
    refine Us (SplitSeq_ok s ⟨#[47]⟩ _ _) body_107 ?_
    simp only [Nat.add_assoc, Nat.reduceAdd]
    refine hK _ _ _ ?_; clear hE hK K E
    refine ⟨rfl, ⟨?_, body_140, ?_, ?_, ?_⟩⟩
    · exact Ec
    · intro fnid D l w2 ι2 a vs I hvs hl
      refine seq_iter (J := clnJ h b) (JS := clnS h b (bl s)) (b := b + 7) (bp := b + 5) (bs := b + 4) (bq := b + 6) (r' := ⟨.done, some .ret, fnid, a.tmps, #[14], _, _, D⟩) (bl s) (by have := (fitsX_eq.1 h1).1; omega) ⟨by omega, by omega, by omega⟩ ⟨by omega, by omega⟩ (fun id hid => I.bound id hid) I.heap hvs hl rfl ?_ ?_ ?_ ?_
      · refine ⟨0, 0, [], [], rfl, ?_, ?_, rfl, rfl, ?_, ?_, ?_⟩
        · exact Er
        · exact Er
        · exact Ecf @empty_mkS
        · exact Er
        · exact Ou
      · exact ⟨by exact Er, by rw [mkS_of]; exact Er, by exact Er⟩
      · rintro d hh x ⟨ver, cap, ks, T, g1, g2, g3, g4, g5, g6, g7, g8⟩
        exact ⟨ver, cap, ks, T, g1, by rw [upd_ne _ _ _ _ (by omega)]; exact g2, by rw [upd_ne _ _ _ _ (by omega)]; exact g3, g4, g5, by rw [upd_ne _ _ _ _ (by omega)]; exact g6, by rw [upd_ne _ _ _ _ (by omega)]; exact g7, fun id hid => by rw [upd_ne _ _ _ _ (by omega)]; exact g8 id hid⟩
      · intro d p more rest hp hh1 hJ hc ι1 w1 hpost hl1
        refine round_ok (mkS p) I hpost hl1 (by simp [Tryd.ntmps72]) (by simp [Tryd.ntmps72]) (fun w' H' => ?_)
        obtain ⟨ver, cap, ks, T, g1, g2, g3, g4, g5, g6, g7, g8⟩ := hJ
        refine Ev ?_
        have sl : (mkS p).data.toList = p := rfl
        have gst : goC [] (d ++ [p]) = stepC ks p := by
          rw [goC_app, g1]
          show goC ks [p] = _
          unfold goC
          cases stepC ks p <;> rfl
        -- on: nothing of it turns
        have keep : ∀ hh, (∀ id, id < b + 7 → hh id = hh1 id) → ∀ id, id < b + 7 → cutH (b + 7) hh id = hh1 id := fun hh e => cutH_outer (Nat.le_refl _) e (fun id blk hb => H'.lowCells id blk hb)
        have same : ∀ hh, (∀ id, id < b + 7 → hh id = hh1 id) → stepC ks p = some ks → clnJ h b (d ++ [p]) (cutH (b + 7) hh) ∧ SeqC (b + 5) (b + 4) (b + 6) rest (cutH (b + 7) hh) := by
          intro hh e hs
          have k := keep hh e
          refine ⟨⟨ver, cap, ks, T, by rw [gst, hs], by rw [k _ (by omega)]; exact g2, by rw [k _ (by omega)]; exact g3, g4, g5, by rw [k _ (by omega)]; exact g6, by rw [k _ (by omega)]; exact g7, fun id hid => by rw [k _ (by omega)]; exact g8 id hid⟩, ⟨by rw [k _ (by omega)]; exact hc.p, by rw [k _ (by omega)]; exact hc.s, by rw [k _ (by omega)]; exact hc.q⟩⟩
        have hkw := (goC_inv g1).2
        have hkn := len_wt ks
        have hwp := joinS_wt (parts_ne (bl s))
        rw [joinS_parts] at hwp
        have hls := (fitsX_eq.1 h1).1
        have hwd : wt d ≤ wt (parts (bl s)) := by rw [hp, wt_app]; omega
        simp only [wt] at hkw
        refine AWP.block ?_
        refine Rk ?_
        refine AWP.block ?_
        refine AWP.seq ?_
        refine Rk ?_
        by_cases p0 : p = []
        · refine Btf (jn3 @mkS_list @p0 @toL0) ?_
          refine AWP.skip ?_
          refine Ev ?_
          refine Btf (jn3 @mkS_list @p0 @toL0) ?_
          refine AWP.skip ?_
          refine Ev ?_
          exact .inl (same _ (fun _ _ => rfl) (by subst p0; rfl))
        · refine Bff (jn3 @mkS_list @p0 @toL0) ?_
          refine Ra (fun E K hE hK => ?_); refine hK _ _ _ ?_; clear hE hK K E
          refine Ev ?_
          by_cases p1 : p = [46]
          · refine Btf (jn3 @mkS_list @p1 @toL1) ?_
            refine AWP.skip ?_
            refine Ev ?_
            exact .inl (same _ (fun _ _ => rfl) (by subst p1; rfl))
          · refine Bff (jn3 @mkS_list @p1 @toL1) ?_
            refine Rk ?_
            by_cases p2 : p = [46, 46]
            · refine Btf (jn3 @mkS_list @p2 @toL2) ?_
              refine AWP.seq ?_
              refine Rkf (jn2 @g2 @g3) ?_
              by_cases hk : ks = []
              · subst hk
                refine Btf @int_c0 ?_
                refine Rkf (jn2 @g6 @g7) ?_
                refine AWP.ret ?_
                refine Ev ?_
                refine .inr ⟨?_, ?_, ?_, ?_⟩
                · rw [hp, show d ++ p :: more = (d ++ [p]) ++ more by simp, goC_app, gst, p2]; rfl
                · exact cutH_same (by omega) (by exact Ecf @nil_mkS) rfl
                · exact cutH_same (by omega) (by exact Er) rfl
                · exact cutH_outer (by omega) (Ouf @g8) hlow
              · have hk2 : ¬ ((ks.length : Int) = 0) := by have := List.length_pos_iff.2 hk; omega
                refine Bsf @hk2 ?_
                have hkl := List.length_pos_iff.2 hk
                have hwm : IntKind.i64.wrap ((ks.length : Int) - 1) = ((ks.length - 1 : Nat) : Int) := by rw [wrap_i64 (by omega) (by omega)]; omega
                refine Raf (jn3 @g2 @g3 @hwm) (fun E K hE hK => ?_)
                refine ⟨⟨by omega, by omega⟩, ?_⟩
                refine hK _ _ _ ?_; clear hE hK K E
                refine Ev ?_
                obtain ⟨ks', q, rfl⟩ : ∃ ks' q, ks = ks' ++ [q] := ⟨ks.dropLast, ks.getLast hk, (List.dropLast_concat_getLast hk).symm⟩
                refine .inl ⟨⟨ver, cap, ks', strC q :: T, ?_, ?_, ?_, ?_, ?_, ?_, ?_, ?_⟩, ⟨?_, ?_, ?_⟩⟩
                · rw [gst, p2]; simp [stepC]
                · exact cutH_same (by omega) (by rw [List.length_append]; exact Er) (by simp [lowCs, lowC])
                · exact cutH_same (by omega) (by refine Evf @g3 ?_; simp) (lowCs_app (lowCs_of fun c hcm => by obtain ⟨k, _, rfl⟩ := List.mem_map.1 hcm; rfl) (by simp only [lowCs, lowC, Bool.true_and]; exact lowCs_mono (Nat.zero_le _) g5))
                · simp at g4 ⊢; omega
                · simp only [lowCs, lowC, Bool.true_and]; exact g5
                · exact cutH_same (by omega) (by exact Ecf @g6) rfl
                · exact cutH_same (by omega) (by exact Ecf @g7) rfl
                · exact cutH_outer (by omega) (fun id (hid : id < b) => by simp -implicitDefEqProofs only [go_sem, ↓reduceIte, Nat.reduceEqDiff, Nat.reduceAdd, Nat.reduceLT, Nat.reduceLeDiff, reduceCtorEq, Int.toNat_natCast, show ¬ id = b by omega, show ¬ id = b + 2 by omega, g8 id hid]) hlow
                · exact cutH_same (by omega) (by exact Ecf @hc.p) rfl
                · exact cutH_same (by omega) (by exact Ecf @hc.s) rfl
                · exact cutH_same (by omega) (by exact Ecf @hc.q) rfl
            · refine Bff (jn3 @mkS_list @p2 @toL2) ?_
              refine Raf (jn2 @g2 @g3) (fun E K hE hK => ?_)
              refine BiR.of ?_
              refine BiK.append_own (e := 9) (sz := 1) (bytes := 16) (m := 1) (xs := [strC p]) (blk := ⟨ver, ks.map strC ++ T⟩) ty_slE_23 ty_tsz_9 ty_tzero_9 rfl ty_tby_9 ty_isIntT_23 (by exact Ecf @g3) rfl
                (by simp; omega) (by (first | (simp -implicitDefEqProofs only [go_sem, ↓reduceIte, Nat.reduceEqDiff, Nat.reduceAdd, Nat.reduceLT, Nat.reduceLeDiff, reduceCtorEq, Int.toNat_natCast, srcA]; first | done | rfl) | rfl)) (by simp [okC, Value.oneCell']) (by omega) (by decide) (by omega) (fun cap' j q1 q2 => ?_)
              refine Evf (jn2 @g2 @g3) ?_
              refine hK _ _ _ ?_; clear hE hK K E
              refine Ev ?_
              have hst : stepC ks p = some (ks ++ [p]) := by unfold stepC; rw [if_neg (by simp [p0, p1]), if_neg p2]
              refine .inl ⟨⟨ver + 1, cap', ks ++ [p], List.replicate j .junk, ?_, ?_, ?_, ?_, ?_, ?_, ?_, ?_⟩, ⟨?_, ?_, ?_⟩⟩
              · rw [gst, hst]
              · exact cutH_same (by omega) (by rw [List.length_append]; exact Er) (by simp [lowCs, lowC])
              · exact cutH_same (by omega) (by refine Ev ?_; simp) (lowCs_app (lowCs_of fun c hcm => by obtain ⟨k, _, rfl⟩ := List.mem_map.1 hcm; rfl) (lowCs_junk _ _))
              · simp; omega
              · exact lowCs_junk _ _
              · exact cutH_same (by omega) (by exact Ecf @g6) rfl
              · exact cutH_same (by omega) (by exact Ecf @g7) rfl
              · exact cutH_outer (by omega) (fun id (hid : id < b) => by simp -implicitDefEqProofs only [go_sem, ↓reduceIte, Nat.reduceEqDiff, Nat.reduceAdd, Nat.reduceLT, Nat.reduceLeDiff, reduceCtorEq, Int.toNat_natCast, show ¬ id = b by omega, show ¬ id = b + 1 by omega, show ¬ id = b + 2 by omega, show ¬ id = b + 3 by omega, show ¬ id = b + 7 by omega, g8 id hid]) hlow
              · exact cutH_same (by omega) (by exact Ecf @hc.p) rfl
              · exact cutH_same (by omega) (by exact Ecf @hc.s) rfl
              · exact cutH_same (by omega) (by exact Ecf @hc.q) rfl
    · intro D h' ι' w4 hJ hb4 H4
      obtain ⟨ver, cap, ks, T, g1, g2, g3, g4, g5, g6, g7, g8⟩ := hJ
      refine Ev ?_
      refine AWP.seq ?_
      refine Rgf (jn2 @g2 @g3) (fun E K hE hK => ?_)
      refine hK _ _ _ ?_; clear hE hK K E
      have hcx : cleanX (bl s) = if ks = [] then ([], 1) else (joinS ks, 0) := by
        unfold cleanX
        rw [if_neg (by simp [h1]), g1]
        cases ks <;> rfl
      by_cases hk : ks = []
      · subst hk
        refine Btf @int_c0 ?_
        refine Rkf (jn2 @g6 @g7) ?_
        refine AWP.ret ⟨rfl, ?_⟩
        refine Ev ?_
        refine fin _ _ _ ([], 1) (by exact Ec) (by exact Ec) (by exact Ecf @nil_mkS) (by exact Er) ?_ ?_
        · exact (Ouf @g8)
        · rw [hcx, if_pos rfl]
      · have hk2 : ¬ ((ks.length : Int) = 0) := by have := List.length_pos_iff.2 hk; omega
        refine Bsf @hk2 ?_
        have hwk := (goC_inv g1).2
        have hj := joinS_wt hk
        have hwp := joinS_wt (parts_ne (bl s))
        rw [joinS_parts] at hwp
        have hls := (fitsX_eq.1 h1).1
        simp only [wt] at hwk
        refine Rgf (jn3 @g2 @g6 @g7) (fun E K hE hK => ?_)
        refine Us (join_ok ks T hk g3 (by omega) (by omega)) body_108 ?_
        refine Evf (jn2 @g6 @g7) ?_
        refine hK _ _ _ ?_; clear hE hK K E
        refine AWP.ret ⟨rfl, ?_⟩
        refine Ev ?_
        refine fin _ _ _ (joinS ks, 0) (by exact Ec) (by exact Ec) (by exact Er) (by exact Er) ?_ ?_
        · exact (Ouf @g8)
        · rw [hcx, if_neg hk]
    · rintro h' ⟨g1, g2, g3, g4⟩
      refine fin _ h' _ ([], 4) (by exact Ec) (by exact Ec) g2 g3 g4 ?_
      unfold cleanX
      rw [if_neg (by simp [h1]), g1]
  · refine Btf @h1 ?_
    refine Rk ?_
    refine AWP.ret ?_
    refine Ev ?_
    refine fin _ _ _ ([], fitsX (bl s)) (by exact Ec) (by exact Ec) (by exact Ecf @nil_mkS) (by exact Er) ?_ ?_
    · exact Ou
    · unfold cleanX; rw [if_pos h1]

end Go.Proofs.YtengjcdilnikhaaDoor

namespace Go.Proofs.YtengjcdilnikhaaDoor
set_option linter.unusedSimpArgs false
set_option linter.unusedVariables false
set_option linter.unnecessarySimpa false
open Go Am
set_option maxRecDepth 100000

theorem bl_len (s : ByteArray) : (bl s).length = s.size := Array.length_toList
theorem ext_take (p : ByteArray) (k : Nat) : p.extract 0 k = mkS ((bl p).take k) := by
  have := mkS_extract (bl p) 0 k
  rw [mkS_of] at this
  rw [this]; simp
theorem ext_drop (p : ByteArray) (k : Nat) : p.extract k p.size = mkS ((bl p).drop k) := by
  have := mkS_extract (bl p) k p.size
  rw [mkS_of] at this
  rw [this]
  have hlen : (bl p).length = p.size := Array.length_toList
  rw [List.take_of_length_le (by rw [List.length_drop]; omega)]


theorem Check_ok (s : ByteArray) (h : Heap) (b : Nat) : ACalls Tryd.prog 35 [StrB s] h b 0 (fun r h' => r = IntV (chkN (bl s)) ∧ h' = h) := by
  refine ACalls.enter Tryd.func35 rfl (by simp [Tryd.ntmps35]) (fun ι w hn H => ?_)
  have fin : ∀ (t : Nat → AV) (n : Nat) (v : Int), t 2 = IntV v → v = chkN (bl s) → Am.Ends Tryd.prog ⟨Tryd.f35.ntmps, b, ι, h, w, x0⟩ Tryd.f35 0 (fun r h' => r = IntV (chkN (bl s)) ∧ h' = h) ⟨t, h, n⟩ := by
    intro t n v ht hv
    exact Ends.pure hn H (fun _ _ => rfl) (r0 := IntV v) (by rw [show Tryd.f35.results.toList = [.tmp 2] from rfl]; exact Ecf @ht) (.v _) ⟨by rw [hv], rfl⟩
  refine Rk ?_
  refine AWP.seq ?_
  refine Rg (fun E K hE hK => ?_)
  refine Us (Clean_ok s _ _) body_72 ?_
  refine hK _ _ _ ?_; clear hE hK K E
  by_cases h1 : (cleanX (bl s)).2 = 0
  · by_cases h2 : (cleanX (bl s)).1 = bl s
    · refine Rgf (jn3 @h1 @h2 @mkS_list) (fun E K hE hK => ?_)
      refine hK _ _ _ ?_; clear hE hK K E
      refine Bs ?_
      refine Rk ?_
      refine AWP.ret ?_
      exact fin _ _ 0 (by exact Er) (by unfold chkN; rw [if_pos ⟨h1, h2⟩])
    · refine Rgf (jn3 @h1 @h2 @mkS_list) (fun E K hE hK => ?_)
      refine hK _ _ _ ?_; clear hE hK K E
      refine Bt ?_
      refine Rk ?_
      refine AWP.ret ?_
      refine Ev ?_
      exact fin _ _ 1 (by exact Er) (by unfold chkN; rw [if_neg (fun e => h2 e.2)])
  · refine Rgf @h1 (fun E K hE hK => ?_)
    refine hK _ _ _ ?_; clear hE hK K E
    refine Bt ?_
    refine Rk ?_
    refine AWP.ret ?_
    refine Ev ?_
    exact fin _ _ 1 (by exact Er) (by unfold chkN; rw [if_neg (fun e => h1 e.1)])

theorem folder_ok (s : ByteArray) (h : Heap) (b : Nat) : ACalls Tryd.prog 82 [StrB s] h b 0 (fun r h' => r = IntV (folN (bl s)) ∧ h' = h) := by
  refine ACalls.enter Tryd.func82 rfl (by simp [Tryd.ntmps82]) (fun ι w hn H => ?_)
  have fin : ∀ (t : Nat → AV) (n : Nat) (v : Int), t 2 = IntV v → v = folN (bl s) → Am.Ends Tryd.prog ⟨Tryd.f82.ntmps, b, ι, h, w, x0⟩ Tryd.f82 0 (fun r h' => r = IntV (folN (bl s)) ∧ h' = h) ⟨t, h, n⟩ := by
    intro t n v ht hv
    exact Ends.pure hn H (fun _ _ => rfl) (r0 := IntV v) (by rw [show Tryd.f82.results.toList = [.tmp 2] from rfl]; exact Ecf @ht) (.v _) ⟨by rw [hv], rfl⟩
  refine Rk ?_
  refine AWP.seq ?_
  refine Rk ?_
  by_cases h1 : bl s = []
  · refine Btf (jn2 @h1 @toL0) ?_
    refine Rk ?_
    refine AWP.ret ?_
    refine Ev ?_
    exact fin _ _ 0 (by exact Er) (by unfold folN; rw [if_pos h1])
  · refine Bsf (jn2 @h1 @toL0) ?_
    refine Rg (fun E K hE hK => ?_)
    refine Us (Check_ok s _ _) body_35 ?_
    refine hK _ _ _ ?_; clear hE hK K E
    refine AWP.ret ?_
    exact fin _ _ _ (by exact Er) (by unfold folN; rw [if_neg h1])

theorem Join_ok (d s : ByteArray) (hs : s.size ≤ 1000) (h : Heap) (b : Nat) : ACalls Tryd.prog 81 [StrB d, StrB s] h b 0 (fun r h' => r = .tup [StrV (joinN (bl d) (bl s)).1, IntV (joinN (bl d) (bl s)).2] ∧ h' = h) := by
  refine ACalls.enter Tryd.func81 rfl (by simp [Tryd.ntmps81]) (fun ι w hn H => ?_)
  have fin : ∀ (t : Nat → AV) (n : Nat) (v : S × Int), t 4 = StrV v.1 → t 5 = IntV v.2 → v = joinN (bl d) (bl s) → Am.Ends Tryd.prog ⟨Tryd.f81.ntmps, b, ι, h, w, x0⟩ Tryd.f81 0 (fun r h' => r = .tup [StrV (joinN (bl d) (bl s)).1, IntV (joinN (bl d) (bl s)).2] ∧ h' = h) ⟨t, h, n⟩ := by
    intro t n v ht ht2 hv
    exact Ends.pure hn H (fun _ _ => rfl) (r0 := .tup [StrV v.1, IntV v.2]) (by rw [show Tryd.f81.results.toList = [.tmp 4, .tmp 5] from rfl]; exact Ecf (jn2 @ht @ht2)) (frz_tup2 (.v _) (.v _)) ⟨by rw [hv], rfl⟩
  refine Rk ?_
  refine AWP.seq ?_
  refine Rg (fun E K hE hK => ?_)
  refine Us (folder_ok d _ _) body_82 ?_
  refine hK _ _ _ ?_; clear hE hK K E
  refine Rk ?_
  by_cases h1 : folN (bl d) = 0
  · refine Bsf @h1 ?_
    have hd : d.size ≤ 96 := by
      have hl : (bl d).length = d.size := Array.length_toList
      rcases folN_zero.1 h1 with e | e
      · rw [← hl, e]; simp
      · rw [← hl]; exact e.1
    have hz0 : (#[(47 : UInt8)] : Array UInt8).size = 1 := rfl
    have hz : d.size + (#[(47 : UInt8)] : Array UInt8).size ≤ 9223372036854775807 := by omega
    have hz2 : d.size + (#[(47 : UInt8)] : Array UInt8).size + s.size ≤ 9223372036854775807 := by omega
    refine Rgf (jn2 @hz @hz2) (fun E K hE hK => ?_)
    refine Us (Clean_ok _ _ _) body_72 ?_
    refine hK _ _ _ ?_; clear hE hK K E
    refine AWP.ret ?_
    exact fin _ _ (cleanX (bl (d ++ ⟨#[47]⟩ ++ s))) (by exact Er) (by exact Er) (by unfold joinN; rw [if_neg (by simp [h1])]; simp [ByteArray.data_append])
  · refine Btf @h1 ?_
    refine Rk ?_
    refine AWP.ret ?_
    refine Ev ?_
    exact fin _ _ ([], folN (bl d)) (by exact Er) (by exact Er) (by unfold joinN; rw [if_pos h1])

theorem Within_ok (d p : ByteArray) (h : Heap) (b : Nat) : ACalls Tryd.prog 44 [StrB d, StrB p] h b 0 (fun r h' => r = .tup [BoolV (withinN (bl d) (bl p)).1, IntV (withinN (bl d) (bl p)).2] ∧ h' = h) := by
  refine ACalls.enter Tryd.func44 rfl (by simp [Tryd.ntmps44]) (fun ι w hn H => ?_)
  have fin : ∀ (t : Nat → AV) (n : Nat) (v : Bool × Int), t 4 = BoolV v.1 → t 5 = IntV v.2 → v = withinN (bl d) (bl p) → Am.Ends Tryd.prog ⟨Tryd.f44.ntmps, b, ι, h, w, x0⟩ Tryd.f44 0 (fun r h' => r = .tup [BoolV (withinN (bl d) (bl p)).1, IntV (withinN (bl d) (bl p)).2] ∧ h' = h) ⟨t, h, n⟩ := by
    intro t n v ht ht2 hv
    exact Ends.pure hn H (fun _ _ => rfl) (r0 := .tup [BoolV v.1, IntV v.2]) (by rw [show Tryd.f44.results.toList = [.tmp 4, .tmp 5] from rfl]; exact Ecf (jn2 @ht @ht2)) (frz_tup2 (.v _) (.v _)) ⟨by rw [hv], rfl⟩
  refine Rk ?_
  refine AWP.seq ?_
  by_cases h1 : folN (bl d) = 0
  · by_cases h2 : chkN (bl p) = 0
    · refine Rg (fun E K hE hK => ?_)
      refine Us (folder_ok d _ _) body_82 ?_
      refine Evf @h1 ?_
      refine Us (Check_ok p _ _) body_35 ?_
      refine Evf @h2 ?_
      refine hK _ _ _ ?_; clear hE hK K E
      refine Bs ?_
      by_cases h3 : bl d = []
      · refine Rgf (jn2 @h3 @toL0) (fun E K hE hK => ?_)
        refine hK _ _ _ ?_; clear hE hK K E
        refine AWP.ret ?_
        exact fin _ _ (true, 0) (by exact Er) (by exact Er) (by unfold withinN; rw [if_neg (by simp [h1, h2])]; simp [h3])
      · have hd : d.size ≤ 96 := by
          have hl : (bl d).length = d.size := Array.length_toList
          rcases folN_zero.1 h1 with e | e
          · rw [← hl, e]; simp
          · rw [← hl]; exact e.1
        have hz0 : (#[(47 : UInt8)] : Array UInt8).size = 1 := rfl
        have hz : d.size + (#[(47 : UInt8)] : Array UInt8).size ≤ 9223372036854775807 := by omega
        refine Rgf (jn3 @h3 @toL0 @hz) (fun E K hE hK => ?_)
        refine Us (hasPrefix_ok p _ _ _) body_83 ?_
        refine hK _ _ _ ?_; clear hE hK K E
        refine AWP.ret ?_
        exact fin _ _ ((bl (d ++ ⟨#[47]⟩)).isPrefixOf (bl p), 0) (by exact Er) (by exact Er) (by unfold withinN; rw [if_neg (by simp [h1, h2])]; simp [h3, ByteArray.data_append])
    · refine Rg (fun E K hE hK => ?_)
      refine Us (folder_ok d _ _) body_82 ?_
      refine Evf @h1 ?_
      refine Us (Check_ok p _ _) body_35 ?_
      refine Evf @h2 ?_
      refine hK _ _ _ ?_; clear hE hK K E
      refine Bt ?_
      refine Rk ?_
      refine AWP.ret ?_
      refine Ev ?_
      exact fin _ _ (false, 1) (by exact Er) (by exact Er) (by unfold withinN; rw [if_pos (.inr h2)])
  · refine Rg (fun E K hE hK => ?_)
    refine Us (folder_ok d _ _) body_82 ?_
    refine Evf @h1 ?_
    refine hK _ _ _ ?_; clear hE hK K E
    refine Bt ?_
    refine Rk ?_
    refine AWP.ret ?_
    refine Ev ?_
    exact fin _ _ (false, 1) (by exact Er) (by exact Er) (by unfold withinN; rw [if_pos (.inl h1)])


end Go.Proofs.YtengjcdilnikhaaDoor
