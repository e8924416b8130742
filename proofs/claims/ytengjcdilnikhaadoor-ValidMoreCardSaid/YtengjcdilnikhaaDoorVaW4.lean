/-
  Walks of package valid: own, Add; the example.
-/
import Derived.Test.YtengjcdilnikhaaDoorVaW3
import Derived.WalkKit
import Derived.RowKit
import Derived.Shelf.Abstract
namespace Go.Proofs
set_option linter.unusedSimpArgs false
set_option linter.unusedVariables false
set_option linter.unnecessarySimpa false
open Go Go.RowKit
set_option maxRecDepth 100000
theorem Tryd.clip_raw (a : Option Addr) (n c : Nat) (hc : n ≤ c) (hn : a = none → c = 0) (hz : n ≤ 4611686018427387904) (w : World) :
    Calls Tryd.prog 64 #[.slice a n c] w fun e w' => e = .returned (.slice a n n) ∧ w' = w := by
  go_enter Tryd.func64, Tryd.ntmps64
  go_wp2
  go_ret
  exact ⟨rfl, rfl⟩
end Go.Proofs
namespace Go.Proofs.YtengjcdilnikhaaDoor
set_option linter.unusedSimpArgs false
set_option linter.unusedVariables false
set_option linter.unnecessarySimpa false
open Go Am
set_option maxRecDepth 100000

/-- a contract's own row is read only, from now on -/
theorem Am.ACalls.rowFrz {P : Program} {f : FuncId} {args : List AV} {h : Heap} {b sz : Nat} {es : List (List PD)} (c : ACalls P f args h b 1 (rowR sz es h b)) (ho : okEs sz es) : ACalls P f args h b 0 (fun r h' => r = .one (.p (.sl sz es)) ∧ h' = h) := by
  intro ι w vs hb hh ha
  refine (ACalls.freeze c ?_) ι w vs hb hh ha
  rintro r h' ⟨ver, cap, T, h1, h2, h3, rfl, rfl⟩
  refine ⟨_, .one (frz_row0 (Nat.le_refl _) (upd_same _ _ _) ho), ⟨rfl, ?_⟩, fun id hid blk e c hc => ?_⟩
  · exact lowH_eq (fun id hid => by rw [upd_ne _ _ _ _ (by omega)]) hb
  · rw [upd_ne _ _ _ _ (by omega)] at e
    exact hh.lowCells id blk e c hc

/-- a part of an own row, as one who only reads sees it -/
theorem view_row {h : Heap} {D : Nat → Bool} {id ver sz m j off cap : Nat} {es : List (List PD)} {T : List Cell} (hD : D id = true) (hb : h id = some (rowB ver es T)) (ho : okEs sz es) (hj : j + m ≤ es.length) (hoff : off = j * sz) :
    ViewC h D (.win id ver off m cap) (.p (.sl sz ((es.drop j).take m))) := by
  refine .p (.win (blk := rowB ver es T) (fun i k => .p ((((es.drop j).take m).getD i []).getD k (.v undef))) hD hb rfl (by rw [List.length_take, List.length_drop]; omega) (fun e he => ho.len e (List.mem_of_mem_drop (List.mem_of_mem_take he))) (fun i e he k x hx => ?_) (fun i e he k x hx => ?_))
  · have e1 : (((es.drop j).take m).getD i []) = e := by simp [List.getD, he]
    have e2 : (e.getD k (.v undef)) = x := by simp [List.getD, hx]
    simp only [e1, e2]
    rw [List.getElem?_take] at he
    split at he
    · rw [List.getElem?_drop] at he
      have := row_cells ho ver T (j + i) e he k x hx
      rw [Nat.zero_add, Nat.add_mul] at this
      rw [hoff, ← Nat.add_assoc]
      exact this
    · cases he
  · have e1 : (((es.drop j).take m).getD i []) = e := by simp [List.getD, he]
    have e2 : (e.getD k (.v undef)) = x := by simp [List.getD, hx]
    simp only [e1, e2]
    exact .p x

theorem clip_ok (es : List (List PD)) (hl : es.length ≤ 1000000) (h : Heap) (b : Nat) : ACalls Tryd.prog 64 [.one (.p (.sl 2 es))] h b 0 (fun r h' => r = .one (.p (.slc 2 es)) ∧ h' = h) := by
  refine ACalls.ofBelow (fun ι w vs H ha => ?_)
  obtain ⟨hl1, hv⟩ := ha
  match vs, hl1 with
  | [v0], _ =>
    have r0 := hv 0 _ v0 rfl rfl
    cases r0 with
    | one hc => cases hc with
      | p hd => cases hd with
        | sl a cap U h1 h2 h3 h4 h5 h6 =>
          refine (Tryd.clip_raw a es.length cap h1 h2 (by omega) w).mono ?_
          rintro e w' ⟨rfl, rfl⟩
          exact ⟨_, rfl, RowKit.Below.refl _ _, .one (.p (.slc (.sl a es.length U (Nat.le_refl _) (fun hn => by have := h2 hn; omega) h3 h4 h5 h6)))⟩

theorem same_cell {L : List Cell} {k : Nat} {c : Cell} (h : L[k]? = some c) : List.take k L ++ c :: List.drop (k + 1) L = L := by
  have hk := (List.getElem?_eq_some_iff.1 h)
  obtain ⟨hlt, he⟩ := hk
  rw [← he, ← List.drop_eq_getElem_cons hlt, List.take_append_drop]

def ownI (l : List Dn) (ver cap : Nat) (T : List Cell) (h : Heap) (b i : Nat) (st : St) : Prop :=
  st.h b = some (rowB ver (l.map encD) T) ∧ (∀ id, id < b → st.h id = h id) ∧ st.t 0 = .one (.win b ver 0 l.length cap) ∧ st.t 7 = .one (.win b ver 0 l.length cap) ∧ st.t 8 = IntV l.length ∧ st.t 9 = IntV (i : Nat)

theorem own_ok (l : List Dn) (hl : sizeD l) (h : Heap) (b : Nat) : ACalls Tryd.prog 65 [DonesV l] h b 1 (rowR 2 (l.map encD) h b) := by
  refine ACalls.enter Tryd.func65 rfl (by simp [Tryd.ntmps65]) (fun ι w hn H => ?_)
  have hlow := H.lowCells
  have hl1 := hl.1
  have hlm : (l.map encD).length = l.length := List.length_map _
  refine AWP.seqReg (by kernel_rfl) (fun E K hE hK => ?_); simp -implicitDefEqProofs only [go_sem, ↓reduceIte, Nat.reduceEqDiff, Nat.reduceAdd, Nat.reduceMul, Nat.reduceLT, Nat.reduceLeDiff, reduceCtorEq, Int.toNat_natCast]; refine hK _ _ _ ?_; clear hE hK K E
  refine AWP.seqReg (by kernel_rfl) (fun E K hE hK => ?_); simp -implicitDefEqProofs only [go_sem, ↓reduceIte, Nat.reduceEqDiff, Nat.reduceAdd, Nat.reduceMul, Nat.reduceLT, Nat.reduceLeDiff, reduceCtorEq, Int.toNat_natCast]
  refine CallR.use (clone_dn_ok (l.map encD) (okEs_dn l) _ _ (by omega)) body_104 ?_
  rintro _ _ ⟨ver, cap, T, h1, h2, h3, rfl, rfl⟩
  rw [hlm] at h1 h2 ⊢
  simp -implicitDefEqProofs only [go_sem, ↓reduceIte, Nat.reduceEqDiff, Nat.reduceAdd, Nat.reduceMul, Nat.reduceLT, Nat.reduceLeDiff, reduceCtorEq, Int.toNat_natCast]
  refine hK _ _ _ ?_; clear hE hK K E
  refine AWP.seq ?_
  refine AWP.seqReg (by kernel_rfl) (fun E K hE hK => ?_); simp -implicitDefEqProofs only [go_sem, ↓reduceIte, Nat.reduceEqDiff, Nat.reduceAdd, Nat.reduceMul, Nat.reduceLT, Nat.reduceLeDiff, reduceCtorEq, Int.toNat_natCast]; refine hK _ _ _ ?_; clear hE hK K E
  have hcl : ∀ i, (hi : i < l.length) → ((l.map encD).flatten.map Cell.p ++ T)[i * 2 + 1]? = some (.p (.sl 1 (l[i].names.map encS))) ∧ List.take 2 (List.drop (i * 2) ((l.map encD).flatten.map Cell.p ++ T)) = (encD l[i]).map .p := by
    intro i hi
    have he : (l.map encD)[i]? = some (encD l[i]) := by rw [List.getElem?_map, List.getElem?_eq_getElem hi]; rfl
    refine ⟨?_, row_part T (okEs_dn l) he⟩
    have := row_cells (okEs_dn l) ver T i (encD l[i]) he 1 (.sl 1 (l[i].names.map encS)) rfl
    rwa [Nat.zero_add] at this
  have hcl2 : ((l.map encD).flatten.map Cell.p ++ T).length = l.length * 2 + T.length := by rw [List.length_append, List.length_map, okEs_len (okEs_dn l), hlm]
  refine AWP.block ?_
  refine AWP.loopM 1 (fun m st => ∃ i, i ≤ l.length ∧ m = l.length - i ∧ ownI l ver cap T h b i st) l.length rfl ⟨0, Nat.zero_le _, rfl, by (first | (simp -implicitDefEqProofs only [go_sem, ↓reduceIte, Nat.reduceEqDiff, Nat.reduceAdd, Nat.reduceMul, Nat.reduceLT, Nat.reduceLeDiff, reduceCtorEq, Int.toNat_natCast]; done) | (simp -implicitDefEqProofs only [go_sem, ↓reduceIte, Nat.reduceEqDiff, Nat.reduceAdd, Nat.reduceMul, Nat.reduceLT, Nat.reduceLeDiff, reduceCtorEq, Int.toNat_natCast]; rfl) | rfl), (fun id (hid : id < b) => by simp -implicitDefEqProofs only [go_sem, ↓reduceIte, Nat.reduceEqDiff, Nat.reduceAdd, Nat.reduceMul, Nat.reduceLT, Nat.reduceLeDiff, reduceCtorEq, Int.toNat_natCast, show ¬ id = b by omega]), by (first | (simp -implicitDefEqProofs only [go_sem, ↓reduceIte, Nat.reduceEqDiff, Nat.reduceAdd, Nat.reduceMul, Nat.reduceLT, Nat.reduceLeDiff, reduceCtorEq, Int.toNat_natCast]; done) | (simp -implicitDefEqProofs only [go_sem, ↓reduceIte, Nat.reduceEqDiff, Nat.reduceAdd, Nat.reduceMul, Nat.reduceLT, Nat.reduceLeDiff, reduceCtorEq, Int.toNat_natCast]; rfl) | rfl), by (first | (simp -implicitDefEqProofs only [go_sem, ↓reduceIte, Nat.reduceEqDiff, Nat.reduceAdd, Nat.reduceMul, Nat.reduceLT, Nat.reduceLeDiff, reduceCtorEq, Int.toNat_natCast]; done) | (simp -implicitDefEqProofs only [go_sem, ↓reduceIte, Nat.reduceEqDiff, Nat.reduceAdd, Nat.reduceMul, Nat.reduceLT, Nat.reduceLeDiff, reduceCtorEq, Int.toNat_natCast]; rfl) | rfl), by (first | (simp -implicitDefEqProofs only [go_sem, ↓reduceIte, Nat.reduceEqDiff, Nat.reduceAdd, Nat.reduceMul, Nat.reduceLT, Nat.reduceLeDiff, reduceCtorEq, Int.toNat_natCast]; done) | (simp -implicitDefEqProofs only [go_sem, ↓reduceIte, Nat.reduceEqDiff, Nat.reduceAdd, Nat.reduceMul, Nat.reduceLT, Nat.reduceLeDiff, reduceCtorEq, Int.toNat_natCast]; rfl) | rfl), by (first | (simp -implicitDefEqProofs only [go_sem, ↓reduceIte, Nat.reduceEqDiff, Nat.reduceAdd, Nat.reduceMul, Nat.reduceLT, Nat.reduceLeDiff, reduceCtorEq, Int.toNat_natCast]; done) | (simp -implicitDefEqProofs only [go_sem, ↓reduceIte, Nat.reduceEqDiff, Nat.reduceAdd, Nat.reduceMul, Nat.reduceLT, Nat.reduceLeDiff, reduceCtorEq, Int.toNat_natCast]; rfl) | rfl)⟩ ?_
  rintro m ⟨t, hh, n⟩ ⟨i, hi, rfl, hb, ho, e0, e7, e8, e9⟩ hn1
  simp only at hb ho e0 e7 e8 e9 hn1
  subst hn1
  refine AWP.seqReg (by kernel_rfl) (fun E K hE hK => ?_); simp -implicitDefEqProofs only [go_sem, ↓reduceIte, Nat.reduceEqDiff, Nat.reduceAdd, Nat.reduceMul, Nat.reduceLT, Nat.reduceLeDiff, reduceCtorEq, Int.toNat_natCast, e8, e9]; refine hK _ _ _ ?_; clear hE hK K E
  refine AWP.seq ?_
  by_cases hlt : (i : Int) < l.length
  · have hw1 : IntKind.i64.wrap ((i : Int) + 1) = ((i + 1 : Nat) : Int) := by rw [wrap_i64 (by omega) (by omega)]; rfl
    have hi2 : i < l.length := by omega
    obtain ⟨hc1, hc2⟩ := hcl i hi2
    obtain ⟨d, hd⟩ : ∃ d, l[i] = d := ⟨_, rfl⟩
    rw [hd] at hc1 hc2
    have hdm : d ∈ l := by rw [← hd]; exact List.getElem_mem hi2
    have hb' : hh b = some ⟨ver, (l.map encD).flatten.map Cell.p ++ T⟩ := hb
    generalize hL : (l.map encD).flatten.map Cell.p ++ T = L at hb' hc1 hc2 hcl2
    have hc2' : List.take 2 (List.drop (0 + i * 2) L) = [.p (.v (.int .u64 d.gen)), .p (.sl 1 (d.names.map encS))] := by rw [Nat.zero_add]; exact hc2
    have hle : 0 + i * 2 + 2 ≤ L.length := by omega
    refine AWP.ifT (by simp -implicitDefEqProofs only [go_sem, ↓reduceIte, Nat.reduceEqDiff, Nat.reduceAdd, Nat.reduceMul, Nat.reduceLT, Nat.reduceLeDiff, reduceCtorEq, Int.toNat_natCast, hlt]) ?_
    refine AWP.skip ?_
    simp -implicitDefEqProofs only [go_sem, ↓reduceIte, Nat.reduceEqDiff, Nat.reduceAdd, Nat.reduceMul, Nat.reduceLT, Nat.reduceLeDiff, reduceCtorEq, Int.toNat_natCast]
    refine AWP.seq ?_
    refine AWP.block ?_
    refine AWP.seqReg (by kernel_rfl) (fun E K hE hK => ?_); simp -implicitDefEqProofs only [go_sem, ↓reduceIte, Nat.reduceEqDiff, Nat.reduceAdd, Nat.reduceMul, Nat.reduceLT, Nat.reduceLeDiff, reduceCtorEq, Int.toNat_natCast, e7, e9, hb', hlt, hc2, hc2']
    refine ⟨by omega, by omega, ?_⟩
    refine hK _ _ _ ?_; clear hE hK K E
    refine AWP.reg (by kernel_rfl) (fun E K hE hK => ?_); simp -implicitDefEqProofs only [go_sem, ↓reduceIte, Nat.reduceEqDiff, Nat.reduceAdd, Nat.reduceMul, Nat.reduceLT, Nat.reduceLeDiff, reduceCtorEq, Int.toNat_natCast, e0, hb', hlt]
    refine CallR.use ((clone_str_ok (d.names.map encS) (okEs_str d.names) _ _ (by rw [List.length_map]; have := hl.2 d hdm; omega)).rowFrz (okEs_str d.names)) body_105 ?_; rintro _ h_ ⟨rfl, e_⟩; rw [e_]; clear e_ h_; simp -implicitDefEqProofs only [go_sem, ↓reduceIte, Nat.reduceEqDiff, Nat.reduceAdd, Nat.reduceMul, Nat.reduceLT, Nat.reduceLeDiff, reduceCtorEq, Int.toNat_natCast]
    simp -implicitDefEqProofs only [go_sem, ↓reduceIte, Nat.reduceEqDiff, Nat.reduceAdd, Nat.reduceMul, Nat.reduceLT, Nat.reduceLeDiff, reduceCtorEq, Int.toNat_natCast, e0, hb', hlt]
    refine ⟨by omega, by omega, ?_⟩
    have hsc := same_cell hc1
    rw [hsc]
    refine hK _ _ _ ?_; clear hE hK K E
    simp -implicitDefEqProofs only [go_sem, ↓reduceIte, Nat.reduceEqDiff, Nat.reduceAdd, Nat.reduceMul, Nat.reduceLT, Nat.reduceLeDiff, reduceCtorEq, Int.toNat_natCast]
    refine AWP.reg (by kernel_rfl) (fun E K hE hK => ?_); simp -implicitDefEqProofs only [go_sem, ↓reduceIte, Nat.reduceEqDiff, Nat.reduceAdd, Nat.reduceMul, Nat.reduceLT, Nat.reduceLeDiff, reduceCtorEq, Int.toNat_natCast, e9, hw1]; refine hK _ _ _ ?_; clear hE hK K E
    refine ⟨(by decide : 1 ≤ 2), l.length - (i + 1), by omega, i + 1, by omega, rfl, ?_, cutH_outer (Nat.le_succ _) (fun id (hid : id < b) => by simp -implicitDefEqProofs only [go_sem, ↓reduceIte, Nat.reduceEqDiff, Nat.reduceAdd, Nat.reduceMul, Nat.reduceLT, Nat.reduceLeDiff, reduceCtorEq, Int.toNat_natCast, show ¬ id = b by omega, show ¬ id = b + 1 by omega, ho id hid]) hlow, by simp -implicitDefEqProofs only [go_sem, ↓reduceIte, Nat.reduceEqDiff, Nat.reduceAdd, Nat.reduceMul, Nat.reduceLT, Nat.reduceLeDiff, reduceCtorEq, Int.toNat_natCast, e0]; exact cutV_win (Nat.lt_succ_self _), by simp -implicitDefEqProofs only [go_sem, ↓reduceIte, Nat.reduceEqDiff, Nat.reduceAdd, Nat.reduceMul, Nat.reduceLT, Nat.reduceLeDiff, reduceCtorEq, Int.toNat_natCast, e7]; exact cutV_win (Nat.lt_succ_self _), by simp -implicitDefEqProofs only [go_sem, ↓reduceIte, Nat.reduceEqDiff, Nat.reduceAdd, Nat.reduceMul, Nat.reduceLT, Nat.reduceLeDiff, reduceCtorEq, Int.toNat_natCast, e8], by (first | (simp -implicitDefEqProofs only [go_sem, ↓reduceIte, Nat.reduceEqDiff, Nat.reduceAdd, Nat.reduceMul, Nat.reduceLT, Nat.reduceLeDiff, reduceCtorEq, Int.toNat_natCast]; done) | (simp -implicitDefEqProofs only [go_sem, ↓reduceIte, Nat.reduceEqDiff, Nat.reduceAdd, Nat.reduceMul, Nat.reduceLT, Nat.reduceLeDiff, reduceCtorEq, Int.toNat_natCast]; rfl) | rfl)⟩
    rw [← hL]
    exact cutH_same (Nat.lt_succ_self _) (by (first | (simp -implicitDefEqProofs only [go_sem, ↓reduceIte, Nat.reduceEqDiff, Nat.reduceAdd, Nat.reduceMul, Nat.reduceLT, Nat.reduceLeDiff, reduceCtorEq, Int.toNat_natCast]; done) | (simp -implicitDefEqProofs only [go_sem, ↓reduceIte, Nat.reduceEqDiff, Nat.reduceAdd, Nat.reduceMul, Nat.reduceLT, Nat.reduceLeDiff, reduceCtorEq, Int.toNat_natCast]; rfl) | rfl)) (lowCs_app (lowCs_p _ _) (lowCs_mono (Nat.zero_le _) h3))
  · refine AWP.ifF (by simp -implicitDefEqProofs only [go_sem, ↓reduceIte, Nat.reduceEqDiff, Nat.reduceAdd, Nat.reduceMul, Nat.reduceLT, Nat.reduceLeDiff, reduceCtorEq, Int.toNat_natCast, hlt]) ?_
    refine AWP.exit ?_
    simp -implicitDefEqProofs only [go_sem, ↓reduceIte, Nat.reduceEqDiff, Nat.reduceAdd, Nat.reduceMul, Nat.reduceLT, Nat.reduceLeDiff, reduceCtorEq, Int.toNat_natCast]
    refine AWP.seqReg (by kernel_rfl) (fun E K hE hK => ?_); simp -implicitDefEqProofs only [go_sem, ↓reduceIte, Nat.reduceEqDiff, Nat.reduceAdd, Nat.reduceMul, Nat.reduceLT, Nat.reduceLeDiff, reduceCtorEq, Int.toNat_natCast, e0]; refine hK _ _ _ ?_; clear hE hK K E
    refine AWP.ret ?_
    refine Ends.row (id := b) (blk := rowB ver (l.map encD) T) hn H ho (Nat.le_refl _) hb (lowCs_app (lowCs_p _ _) (lowCs_mono (Nat.zero_le _) h3)) (r0 := .one (.win b ver 0 l.length cap)) (by rw [show Tryd.f65.results.toList = [.tmp 2] from rfl]; (first | (simp -implicitDefEqProofs only [go_sem, ↓reduceIte, Nat.reduceEqDiff, Nat.reduceAdd, Nat.reduceMul, Nat.reduceLT, Nat.reduceLeDiff, reduceCtorEq, Int.toNat_natCast]; done) | (simp -implicitDefEqProofs only [go_sem, ↓reduceIte, Nat.reduceEqDiff, Nat.reduceAdd, Nat.reduceMul, Nat.reduceLT, Nat.reduceLeDiff, reduceCtorEq, Int.toNat_natCast]; rfl) | rfl)) (renV.win0 _ _ _ _) ⟨ver, cap, T, by omega, by omega, h3, by rw [hlm], rfl⟩

theorem lastG_get (l : List Dn) (hne : l ≠ []) : lastG l = (l[l.length - 1]'(by have := List.length_pos_iff.2 hne; omega)).gen := by
  unfold lastG
  rw [List.getLast?_eq_some_getLast hne]
  simp only [List.getLast_eq_getElem]

theorem vAdd_ok (l : List Dn) (gen : Int) (names : List S) (hl : sizeD l) (hl9 : l.length ≤ 100000) (hnm : names.length ≤ 1000000) (h : Heap) (b : Nat) :
    ACalls Tryd.prog 26 [DonesV l, U64V gen, ListV names] h b 0 (fun r h' => r = .tup [DonesV (addR l gen names).1, IntV (addR l gen names).2] ∧ h' = h) := by
  refine ACalls.enter Tryd.func26 rfl (by simp [Tryd.ntmps26]) (fun ι w hn H => ?_)
  have hl1 := hl.1
  have fin : ∀ (t : Nat → AV) (hh : Heap) (n : Nat) (e : Int), t 6 = .one (.p (.v (.slice none 0 0))) → t 7 = IntV e → (∀ id, id < b → hh id = h id) → ([], e) = addR l gen names → Am.Ends Tryd.prog ⟨Tryd.f26.ntmps, b, ι, h, w, x0⟩ Tryd.f26 0 (fun r h' => r = .tup [DonesV (addR l gen names).1, IntV (addR l gen names).2] ∧ h' = h) ⟨t, hh, n⟩ := by
    intro t hh n e ht ht2 ho hv
    exact Ends.pure hn H ho (r0 := .tup [.one (.p (.v (.slice none 0 0))), IntV e]) (by rw [show Tryd.f26.results.toList = [.tmp 6, .tmp 7] from rfl]; simp -implicitDefEqProofs only [go_sem, ↓reduceIte, Nat.reduceEqDiff, Nat.reduceAdd, Nat.reduceMul, Nat.reduceLT, Nat.reduceLeDiff, reduceCtorEq, Int.toNat_natCast, ht, ht2]) (frz_tup2 (.one (frz_nil 2)) (.v _)) ⟨by rw [← hv]; rfl, rfl⟩
  refine AWP.seqReg (by kernel_rfl) (fun E K hE hK => ?_); simp -implicitDefEqProofs only [go_sem, ↓reduceIte, Nat.reduceEqDiff, Nat.reduceAdd, Nat.reduceMul, Nat.reduceLT, Nat.reduceLeDiff, reduceCtorEq, Int.toNat_natCast]; refine hK _ _ _ ?_; clear hE hK K E
  refine AWP.seqReg (by kernel_rfl) (fun E K hE hK => ?_); simp -implicitDefEqProofs only [go_sem, ↓reduceIte, Nat.reduceEqDiff, Nat.reduceAdd, Nat.reduceMul, Nat.reduceLT, Nat.reduceLeDiff, reduceCtorEq, Int.toNat_natCast]
  refine CallR.use (clip_ok (l.map encD) (by rw [List.length_map]; exact hl1) _ _) body_64 ?_; rintro _ h_ ⟨rfl, e_⟩; rw [e_]; clear e_ h_; simp -implicitDefEqProofs only [go_sem, ↓reduceIte, Nat.reduceEqDiff, Nat.reduceAdd, Nat.reduceMul, Nat.reduceLT, Nat.reduceLeDiff, reduceCtorEq, Int.toNat_natCast]
  refine BiR.of ?_
  refine BiK.append_slc (e := 34) (sz := 2) (bytes := 32) (m := 1) (ys := (encD ⟨gen, names⟩).map .p) ty_slE_22 ty_tsz_34 ty_tzero_34 rfl ty_tby_34 ty_isIntT_22 (by (first | (simp -implicitDefEqProofs only [go_sem, ↓reduceIte, Nat.reduceEqDiff, Nat.reduceAdd, Nat.reduceMul, Nat.reduceLT, Nat.reduceLeDiff, reduceCtorEq, Int.toNat_natCast, srcA]; done) | (simp -implicitDefEqProofs only [go_sem, ↓reduceIte, Nat.reduceEqDiff, Nat.reduceAdd, Nat.reduceMul, Nat.reduceLT, Nat.reduceLeDiff, reduceCtorEq, Int.toNat_natCast, srcA]; rfl) | rfl)) (by decide) (by rw [List.length_map]; omega) (by decide) (by rw [List.length_map]; omega) (fun cap' r q1 q2 => ?_)
  rw [List.length_map] at q1 q2 ⊢
  simp -implicitDefEqProofs only [go_sem, ↓reduceIte, Nat.reduceEqDiff, Nat.reduceAdd, Nat.reduceMul, Nat.reduceLT, Nat.reduceLeDiff, reduceCtorEq, Int.toNat_natCast]
  refine hK _ _ _ ?_; clear hE hK K E
  obtain ⟨d, hd⟩ : ∃ d : Dn, (⟨gen, names⟩ : Dn) = d := ⟨_, rfl⟩
  have hm : (l ++ [d]).length = l.length + 1 := by simp
  have hrow : ∀ hh : Heap, upd hh (b + 1) ⟨0, (l.map encD).flatten.map Cell.p ++ (.p (.v (.int .u64 gen)) :: .p (.sl 1 (names.map encS)) :: List.replicate r .junk)⟩ = upd hh (b + 1) (rowB 0 ((l ++ [d]).map encD) (List.replicate r .junk)) := by
    intro hh
    rw [← hd]
    congr 1
    simp [encD]
  rw [hrow]
  refine AWP.frz 8 (cap := cap') (len := l.length + 1) (off := 0) (id := b + 1) 2 ((l ++ [d]).map encD) (by (first | (simp -implicitDefEqProofs only [go_sem, ↓reduceIte, Nat.reduceEqDiff, Nat.reduceAdd, Nat.reduceMul, Nat.reduceLT, Nat.reduceLeDiff, reduceCtorEq, Int.toNat_natCast]; done) | (simp -implicitDefEqProofs only [go_sem, ↓reduceIte, Nat.reduceEqDiff, Nat.reduceAdd, Nat.reduceMul, Nat.reduceLT, Nat.reduceLeDiff, reduceCtorEq, Int.toNat_natCast]; rfl) | rfl)) (by (first | (simp -implicitDefEqProofs only [go_sem, ↓reduceIte, Nat.reduceEqDiff, Nat.reduceAdd, Nat.reduceMul, Nat.reduceLT, Nat.reduceLeDiff, reduceCtorEq, Int.toNat_natCast]; done) | (simp -implicitDefEqProofs only [go_sem, ↓reduceIte, Nat.reduceEqDiff, Nat.reduceAdd, Nat.reduceMul, Nat.reduceLT, Nat.reduceLeDiff, reduceCtorEq, Int.toNat_natCast]; rfl) | rfl)) rfl (by rw [List.length_map, hm]) (okEs_dn _).len (row_cells (okEs_dn _) 0 _) ?_
  have hsz : sizeD (l ++ [d]) := ⟨by rw [hm]; omega, fun x hx => by
    rcases List.mem_append.1 hx with hx | hx
    · exact hl.2 x hx
    · simp at hx; subst hx; rw [← hd]; exact hnm⟩
  have hsz1 : sizeD [d] := ⟨by simp, fun x hx => hsz.2 x (by simp at hx; subst hx; simp)⟩
  have out : ∀ id, id < b → delH (upd (upd h b ⟨0, [.p (.v (.int .u64 gen)), .p (.sl 1 (names.map encS))]⟩) (b + 1) (rowB 0 ((l ++ [d]).map encD) (List.replicate r .junk))) (b + 1) id = h id := fun id hid => by
    simp -implicitDefEqProofs only [go_sem, ↓reduceIte, Nat.reduceEqDiff, Nat.reduceAdd, Nat.reduceMul, Nat.reduceLT, Nat.reduceLeDiff, reduceCtorEq, Int.toNat_natCast, delH, show ¬ id = b by omega, show ¬ id = b + 1 by omega]
  generalize delH (upd (upd h b ⟨0, [.p (.v (.int .u64 gen)), .p (.sl 1 (names.map encS))]⟩) (b + 1) (rowB 0 ((l ++ [d]).map encD) (List.replicate r .junk))) (b + 1) = hh at out ⊢
  have hsl : List.take ((l ++ [d]).length - l.length) (List.drop l.length ((l ++ [d]).map encD)) = [d].map encD := by
    rw [List.map_append, List.drop_left' (by simp), hm, Nat.add_sub_cancel_left]; rfl
  have hbn : (0 : Int) ≤ l.length ∧ (l.length : Int) ≤ (l ++ [d]).length := by rw [hm]; omega
  refine AWP.seq ?_
  refine AWP.block ?_
  have hlm : (List.map encD l).length = l.length := List.length_map _
  have hlm2 : (List.map encD (l ++ [d])).length = (l ++ [d]).length := List.length_map _
  have hadd : addR l gen names = if checkX l ≠ 0 ∨ checkX [d] ≠ 0 ∨ (l ≠ [] ∧ gen ≤ lastG l) then ([], 1) else if l.length = 1024 then ([], 6) else (l ++ [d], 0) := by unfold addR; rw [hd]
  by_cases c1 : checkX l = 0
  case neg =>
    refine AWP.seqReg (by kernel_rfl) (fun E K hE hK => ?_); simp -implicitDefEqProofs only [go_sem, ↓reduceIte, Nat.reduceEqDiff, Nat.reduceAdd, Nat.reduceMul, Nat.reduceLT, Nat.reduceLeDiff, reduceCtorEq, Int.toNat_natCast]
    refine CallR.use (vCheck_ok l hl _ _) body_18 ?_; rintro _ h_ ⟨rfl, e_⟩; rw [e_]; clear e_ h_; simp -implicitDefEqProofs only [go_sem, ↓reduceIte, Nat.reduceEqDiff, Nat.reduceAdd, Nat.reduceMul, Nat.reduceLT, Nat.reduceLeDiff, reduceCtorEq, Int.toNat_natCast]
    simp -implicitDefEqProofs only [go_sem, ↓reduceIte, Nat.reduceEqDiff, Nat.reduceAdd, Nat.reduceMul, Nat.reduceLT, Nat.reduceLeDiff, reduceCtorEq, Int.toNat_natCast, c1]
    refine hK _ _ _ ?_; clear hE hK K E
    refine AWP.ifT (by simp -implicitDefEqProofs only [go_sem, ↓reduceIte, Nat.reduceEqDiff, Nat.reduceAdd, Nat.reduceMul, Nat.reduceLT, Nat.reduceLeDiff, reduceCtorEq, Int.toNat_natCast]) ?_
    refine AWP.seqReg (by kernel_rfl) (fun E K hE hK => ?_); simp -implicitDefEqProofs only [go_sem, ↓reduceIte, Nat.reduceEqDiff, Nat.reduceAdd, Nat.reduceMul, Nat.reduceLT, Nat.reduceLeDiff, reduceCtorEq, Int.toNat_natCast]; refine hK _ _ _ ?_; clear hE hK K E
    refine AWP.ret ?_
    simp -implicitDefEqProofs only [go_sem, ↓reduceIte, Nat.reduceEqDiff, Nat.reduceAdd, Nat.reduceMul, Nat.reduceLT, Nat.reduceLeDiff, reduceCtorEq, Int.toNat_natCast]
    exact fin _ _ _ 1 (by (first | (simp -implicitDefEqProofs only [go_sem, ↓reduceIte, Nat.reduceEqDiff, Nat.reduceAdd, Nat.reduceMul, Nat.reduceLT, Nat.reduceLeDiff, reduceCtorEq, Int.toNat_natCast]; done) | (simp -implicitDefEqProofs only [go_sem, ↓reduceIte, Nat.reduceEqDiff, Nat.reduceAdd, Nat.reduceMul, Nat.reduceLT, Nat.reduceLeDiff, reduceCtorEq, Int.toNat_natCast]; rfl) | rfl)) (by (first | (simp -implicitDefEqProofs only [go_sem, ↓reduceIte, Nat.reduceEqDiff, Nat.reduceAdd, Nat.reduceMul, Nat.reduceLT, Nat.reduceLeDiff, reduceCtorEq, Int.toNat_natCast]; done) | (simp -implicitDefEqProofs only [go_sem, ↓reduceIte, Nat.reduceEqDiff, Nat.reduceAdd, Nat.reduceMul, Nat.reduceLT, Nat.reduceLeDiff, reduceCtorEq, Int.toNat_natCast]; rfl) | rfl)) out (by rw [hadd, if_pos (.inl c1)])
  by_cases c2 : checkX [d] = 0
  case neg =>
    refine AWP.seqReg (by kernel_rfl) (fun E K hE hK => ?_); simp -implicitDefEqProofs only [go_sem, ↓reduceIte, Nat.reduceEqDiff, Nat.reduceAdd, Nat.reduceMul, Nat.reduceLT, Nat.reduceLeDiff, reduceCtorEq, Int.toNat_natCast]
    refine CallR.use (vCheck_ok l hl _ _) body_18 ?_; rintro _ h_ ⟨rfl, e_⟩; rw [e_]; clear e_ h_; simp -implicitDefEqProofs only [go_sem, ↓reduceIte, Nat.reduceEqDiff, Nat.reduceAdd, Nat.reduceMul, Nat.reduceLT, Nat.reduceLeDiff, reduceCtorEq, Int.toNat_natCast]
    simp -implicitDefEqProofs only [go_sem, ↓reduceIte, Nat.reduceEqDiff, Nat.reduceAdd, Nat.reduceMul, Nat.reduceLT, Nat.reduceLeDiff, reduceCtorEq, Int.toNat_natCast, c1, hlm, hlm2, hsl]
    refine ⟨hbn, ?_⟩
    refine CallR.use (vCheck_ok [d] hsz1 _ _) body_18 ?_; rintro _ h_ ⟨rfl, e_⟩; rw [e_]; clear e_ h_; simp -implicitDefEqProofs only [go_sem, ↓reduceIte, Nat.reduceEqDiff, Nat.reduceAdd, Nat.reduceMul, Nat.reduceLT, Nat.reduceLeDiff, reduceCtorEq, Int.toNat_natCast]
    simp -implicitDefEqProofs only [go_sem, ↓reduceIte, Nat.reduceEqDiff, Nat.reduceAdd, Nat.reduceMul, Nat.reduceLT, Nat.reduceLeDiff, reduceCtorEq, Int.toNat_natCast, c2]
    refine hK _ _ _ ?_; clear hE hK K E
    refine AWP.ifT (by simp -implicitDefEqProofs only [go_sem, ↓reduceIte, Nat.reduceEqDiff, Nat.reduceAdd, Nat.reduceMul, Nat.reduceLT, Nat.reduceLeDiff, reduceCtorEq, Int.toNat_natCast]) ?_
    refine AWP.seqReg (by kernel_rfl) (fun E K hE hK => ?_); simp -implicitDefEqProofs only [go_sem, ↓reduceIte, Nat.reduceEqDiff, Nat.reduceAdd, Nat.reduceMul, Nat.reduceLT, Nat.reduceLeDiff, reduceCtorEq, Int.toNat_natCast]; refine hK _ _ _ ?_; clear hE hK K E
    refine AWP.ret ?_
    simp -implicitDefEqProofs only [go_sem, ↓reduceIte, Nat.reduceEqDiff, Nat.reduceAdd, Nat.reduceMul, Nat.reduceLT, Nat.reduceLeDiff, reduceCtorEq, Int.toNat_natCast]
    exact fin _ _ _ 1 (by (first | (simp -implicitDefEqProofs only [go_sem, ↓reduceIte, Nat.reduceEqDiff, Nat.reduceAdd, Nat.reduceMul, Nat.reduceLT, Nat.reduceLeDiff, reduceCtorEq, Int.toNat_natCast]; done) | (simp -implicitDefEqProofs only [go_sem, ↓reduceIte, Nat.reduceEqDiff, Nat.reduceAdd, Nat.reduceMul, Nat.reduceLT, Nat.reduceLeDiff, reduceCtorEq, Int.toNat_natCast]; rfl) | rfl)) (by (first | (simp -implicitDefEqProofs only [go_sem, ↓reduceIte, Nat.reduceEqDiff, Nat.reduceAdd, Nat.reduceMul, Nat.reduceLT, Nat.reduceLeDiff, reduceCtorEq, Int.toNat_natCast]; done) | (simp -implicitDefEqProofs only [go_sem, ↓reduceIte, Nat.reduceEqDiff, Nat.reduceAdd, Nat.reduceMul, Nat.reduceLT, Nat.reduceLeDiff, reduceCtorEq, Int.toNat_natCast]; rfl) | rfl)) out (by rw [hadd, if_pos (.inr (.inl c2))])
  refine AWP.mid (fun s' => s'.h = hh ∧ s'.n = 2 ∧ s'.t 0 = DonesV l ∧ s'.t 8 = DonesV (l ++ [d]) ∧ s'.t 16 = BoolV (decide (l ≠ [] ∧ gen ≤ lastG l))) ?_ ?_
  · by_cases hne : l = []
    · have h0 : ¬ (0 : Int) < l.length := by rw [hne]; decide
      refine AWP.reg (by kernel_rfl) (fun E K hE hK => ?_); simp -implicitDefEqProofs only [go_sem, ↓reduceIte, Nat.reduceEqDiff, Nat.reduceAdd, Nat.reduceMul, Nat.reduceLT, Nat.reduceLeDiff, reduceCtorEq, Int.toNat_natCast]
      refine CallR.use (vCheck_ok l hl _ _) body_18 ?_; rintro _ h_ ⟨rfl, e_⟩; rw [e_]; clear e_ h_; simp -implicitDefEqProofs only [go_sem, ↓reduceIte, Nat.reduceEqDiff, Nat.reduceAdd, Nat.reduceMul, Nat.reduceLT, Nat.reduceLeDiff, reduceCtorEq, Int.toNat_natCast]
      simp -implicitDefEqProofs only [go_sem, ↓reduceIte, Nat.reduceEqDiff, Nat.reduceAdd, Nat.reduceMul, Nat.reduceLT, Nat.reduceLeDiff, reduceCtorEq, Int.toNat_natCast, c1, hlm, hlm2, hsl]
      refine ⟨hbn, ?_⟩
      refine CallR.use (vCheck_ok [d] hsz1 _ _) body_18 ?_; rintro _ h_ ⟨rfl, e_⟩; rw [e_]; clear e_ h_; simp -implicitDefEqProofs only [go_sem, ↓reduceIte, Nat.reduceEqDiff, Nat.reduceAdd, Nat.reduceMul, Nat.reduceLT, Nat.reduceLeDiff, reduceCtorEq, Int.toNat_natCast]
      simp -implicitDefEqProofs only [go_sem, ↓reduceIte, Nat.reduceEqDiff, Nat.reduceAdd, Nat.reduceMul, Nat.reduceLT, Nat.reduceLeDiff, reduceCtorEq, Int.toNat_natCast, c2, hlm, h0]
      refine hK _ _ _ ?_; clear hE hK K E
      refine ⟨rfl, rfl, by (first | (simp -implicitDefEqProofs only [go_sem, ↓reduceIte, Nat.reduceEqDiff, Nat.reduceAdd, Nat.reduceMul, Nat.reduceLT, Nat.reduceLeDiff, reduceCtorEq, Int.toNat_natCast]; done) | (simp -implicitDefEqProofs only [go_sem, ↓reduceIte, Nat.reduceEqDiff, Nat.reduceAdd, Nat.reduceMul, Nat.reduceLT, Nat.reduceLeDiff, reduceCtorEq, Int.toNat_natCast]; rfl) | rfl), by (first | (simp -implicitDefEqProofs only [go_sem, ↓reduceIte, Nat.reduceEqDiff, Nat.reduceAdd, Nat.reduceMul, Nat.reduceLT, Nat.reduceLeDiff, reduceCtorEq, Int.toNat_natCast]; done) | (simp -implicitDefEqProofs only [go_sem, ↓reduceIte, Nat.reduceEqDiff, Nat.reduceAdd, Nat.reduceMul, Nat.reduceLT, Nat.reduceLeDiff, reduceCtorEq, Int.toNat_natCast]; rfl) | rfl), ?_⟩
      rw [decide_eq_false (fun e => e.1 hne)]
      (first | (simp -implicitDefEqProofs only [go_sem, ↓reduceIte, Nat.reduceEqDiff, Nat.reduceAdd, Nat.reduceMul, Nat.reduceLT, Nat.reduceLeDiff, reduceCtorEq, Int.toNat_natCast]; done) | (simp -implicitDefEqProofs only [go_sem, ↓reduceIte, Nat.reduceEqDiff, Nat.reduceAdd, Nat.reduceMul, Nat.reduceLT, Nat.reduceLeDiff, reduceCtorEq, Int.toNat_natCast]; rfl) | rfl)
    · have hpos := List.length_pos_iff.2 hne
      have h0 : (0 : Int) < l.length := by omega
      have hwm : IntKind.i64.wrap ((l.length : Int) - 1) = ((l.length - 1 : Nat) : Int) := by rw [wrap_i64 (by omega) (by omega)]; omega
      have hlt : ((l.length - 1 : Nat) : Int) < l.length := by omega
      have hge := encD_getD l (l.length - 1) (by omega)
      have hlg := lastG_get l hne
      rw [← hlg] at hge
      have fin2 : decide (gen ≤ lastG l) = decide (l ≠ [] ∧ gen ≤ lastG l) := by
        rw [decide_eq_decide]; exact ⟨fun e => ⟨hne, e⟩, fun e => e.2⟩
      refine AWP.reg (by kernel_rfl) (fun E K hE hK => ?_); simp -implicitDefEqProofs only [go_sem, ↓reduceIte, Nat.reduceEqDiff, Nat.reduceAdd, Nat.reduceMul, Nat.reduceLT, Nat.reduceLeDiff, reduceCtorEq, Int.toNat_natCast]
      refine CallR.use (vCheck_ok l hl _ _) body_18 ?_; rintro _ h_ ⟨rfl, e_⟩; rw [e_]; clear e_ h_; simp -implicitDefEqProofs only [go_sem, ↓reduceIte, Nat.reduceEqDiff, Nat.reduceAdd, Nat.reduceMul, Nat.reduceLT, Nat.reduceLeDiff, reduceCtorEq, Int.toNat_natCast]
      simp -implicitDefEqProofs only [go_sem, ↓reduceIte, Nat.reduceEqDiff, Nat.reduceAdd, Nat.reduceMul, Nat.reduceLT, Nat.reduceLeDiff, reduceCtorEq, Int.toNat_natCast, c1, hlm, hlm2, hsl]
      refine ⟨hbn, ?_⟩
      refine CallR.use (vCheck_ok [d] hsz1 _ _) body_18 ?_; rintro _ h_ ⟨rfl, e_⟩; rw [e_]; clear e_ h_; simp -implicitDefEqProofs only [go_sem, ↓reduceIte, Nat.reduceEqDiff, Nat.reduceAdd, Nat.reduceMul, Nat.reduceLT, Nat.reduceLeDiff, reduceCtorEq, Int.toNat_natCast]
      simp -implicitDefEqProofs only [go_sem, ↓reduceIte, Nat.reduceEqDiff, Nat.reduceAdd, Nat.reduceMul, Nat.reduceLT, Nat.reduceLeDiff, reduceCtorEq, Int.toNat_natCast, c2, hlm, h0, hwm, hlt, hge]
      refine ⟨by omega, ?_⟩
      refine hK _ _ _ ?_; clear hE hK K E
      refine ⟨rfl, rfl, by (first | (simp -implicitDefEqProofs only [go_sem, ↓reduceIte, Nat.reduceEqDiff, Nat.reduceAdd, Nat.reduceMul, Nat.reduceLT, Nat.reduceLeDiff, reduceCtorEq, Int.toNat_natCast]; done) | (simp -implicitDefEqProofs only [go_sem, ↓reduceIte, Nat.reduceEqDiff, Nat.reduceAdd, Nat.reduceMul, Nat.reduceLT, Nat.reduceLeDiff, reduceCtorEq, Int.toNat_natCast]; rfl) | rfl), by (first | (simp -implicitDefEqProofs only [go_sem, ↓reduceIte, Nat.reduceEqDiff, Nat.reduceAdd, Nat.reduceMul, Nat.reduceLT, Nat.reduceLeDiff, reduceCtorEq, Int.toNat_natCast]; done) | (simp -implicitDefEqProofs only [go_sem, ↓reduceIte, Nat.reduceEqDiff, Nat.reduceAdd, Nat.reduceMul, Nat.reduceLT, Nat.reduceLeDiff, reduceCtorEq, Int.toNat_natCast]; rfl) | rfl), ?_⟩
      rw [← fin2]
      (first | (simp -implicitDefEqProofs only [go_sem, ↓reduceIte, Nat.reduceEqDiff, Nat.reduceAdd, Nat.reduceMul, Nat.reduceLT, Nat.reduceLeDiff, reduceCtorEq, Int.toNat_natCast]; done) | (simp -implicitDefEqProofs only [go_sem, ↓reduceIte, Nat.reduceEqDiff, Nat.reduceAdd, Nat.reduceMul, Nat.reduceLT, Nat.reduceLeDiff, reduceCtorEq, Int.toNat_natCast]; rfl) | rfl)
  · rintro ⟨t, h0, n0⟩ ⟨q1, q2, e0, e8, e16⟩
    simp only at q1 q2 e0 e8 e16
    subst q1 q2
    by_cases c3 : l ≠ [] ∧ gen ≤ lastG l
    · rw [decide_eq_true c3] at e16
      refine AWP.ifT (by simp -implicitDefEqProofs only [go_sem, ↓reduceIte, Nat.reduceEqDiff, Nat.reduceAdd, Nat.reduceMul, Nat.reduceLT, Nat.reduceLeDiff, reduceCtorEq, Int.toNat_natCast, e16]) ?_
      refine AWP.seqReg (by kernel_rfl) (fun E K hE hK => ?_); simp -implicitDefEqProofs only [go_sem, ↓reduceIte, Nat.reduceEqDiff, Nat.reduceAdd, Nat.reduceMul, Nat.reduceLT, Nat.reduceLeDiff, reduceCtorEq, Int.toNat_natCast]; refine hK _ _ _ ?_; clear hE hK K E
      refine AWP.ret ?_
      simp -implicitDefEqProofs only [go_sem, ↓reduceIte, Nat.reduceEqDiff, Nat.reduceAdd, Nat.reduceMul, Nat.reduceLT, Nat.reduceLeDiff, reduceCtorEq, Int.toNat_natCast]
      exact fin _ _ _ 1 (by (first | (simp -implicitDefEqProofs only [go_sem, ↓reduceIte, Nat.reduceEqDiff, Nat.reduceAdd, Nat.reduceMul, Nat.reduceLT, Nat.reduceLeDiff, reduceCtorEq, Int.toNat_natCast]; done) | (simp -implicitDefEqProofs only [go_sem, ↓reduceIte, Nat.reduceEqDiff, Nat.reduceAdd, Nat.reduceMul, Nat.reduceLT, Nat.reduceLeDiff, reduceCtorEq, Int.toNat_natCast]; rfl) | rfl)) (by (first | (simp -implicitDefEqProofs only [go_sem, ↓reduceIte, Nat.reduceEqDiff, Nat.reduceAdd, Nat.reduceMul, Nat.reduceLT, Nat.reduceLeDiff, reduceCtorEq, Int.toNat_natCast]; done) | (simp -implicitDefEqProofs only [go_sem, ↓reduceIte, Nat.reduceEqDiff, Nat.reduceAdd, Nat.reduceMul, Nat.reduceLT, Nat.reduceLeDiff, reduceCtorEq, Int.toNat_natCast]; rfl) | rfl)) out (by rw [hadd, if_pos (.inr (.inr c3))])
    · rw [decide_eq_false c3] at e16
      have hadd2 : addR l gen names = if l.length = 1024 then ([], 6) else (l ++ [d], 0) := by rw [hadd, if_neg]; rintro (h | h | h); exact h c1; exact h c2; exact c3 h
      refine AWP.ifF (by simp -implicitDefEqProofs only [go_sem, ↓reduceIte, Nat.reduceEqDiff, Nat.reduceAdd, Nat.reduceMul, Nat.reduceLT, Nat.reduceLeDiff, reduceCtorEq, Int.toNat_natCast, e16]) ?_
      refine AWP.seqReg (by kernel_rfl) (fun E K hE hK => ?_); simp -implicitDefEqProofs only [go_sem, ↓reduceIte, Nat.reduceEqDiff, Nat.reduceAdd, Nat.reduceMul, Nat.reduceLT, Nat.reduceLeDiff, reduceCtorEq, Int.toNat_natCast, e0, hlm]; refine hK _ _ _ ?_; clear hE hK K E
      by_cases c4 : (l.length : Int) = 1024
      · refine AWP.ifT (by simp -implicitDefEqProofs only [go_sem, ↓reduceIte, Nat.reduceEqDiff, Nat.reduceAdd, Nat.reduceMul, Nat.reduceLT, Nat.reduceLeDiff, reduceCtorEq, Int.toNat_natCast, c4]) ?_
        refine AWP.seqReg (by kernel_rfl) (fun E K hE hK => ?_); simp -implicitDefEqProofs only [go_sem, ↓reduceIte, Nat.reduceEqDiff, Nat.reduceAdd, Nat.reduceMul, Nat.reduceLT, Nat.reduceLeDiff, reduceCtorEq, Int.toNat_natCast]; refine hK _ _ _ ?_; clear hE hK K E
        refine AWP.ret ?_
        simp -implicitDefEqProofs only [go_sem, ↓reduceIte, Nat.reduceEqDiff, Nat.reduceAdd, Nat.reduceMul, Nat.reduceLT, Nat.reduceLeDiff, reduceCtorEq, Int.toNat_natCast]
        exact fin _ _ _ 6 (by (first | (simp -implicitDefEqProofs only [go_sem, ↓reduceIte, Nat.reduceEqDiff, Nat.reduceAdd, Nat.reduceMul, Nat.reduceLT, Nat.reduceLeDiff, reduceCtorEq, Int.toNat_natCast]; done) | (simp -implicitDefEqProofs only [go_sem, ↓reduceIte, Nat.reduceEqDiff, Nat.reduceAdd, Nat.reduceMul, Nat.reduceLT, Nat.reduceLeDiff, reduceCtorEq, Int.toNat_natCast]; rfl) | rfl)) (by (first | (simp -implicitDefEqProofs only [go_sem, ↓reduceIte, Nat.reduceEqDiff, Nat.reduceAdd, Nat.reduceMul, Nat.reduceLT, Nat.reduceLeDiff, reduceCtorEq, Int.toNat_natCast]; done) | (simp -implicitDefEqProofs only [go_sem, ↓reduceIte, Nat.reduceEqDiff, Nat.reduceAdd, Nat.reduceMul, Nat.reduceLT, Nat.reduceLeDiff, reduceCtorEq, Int.toNat_natCast]; rfl) | rfl)) out (by rw [hadd2, if_pos (by omega)])
      · refine AWP.ifF (by simp -implicitDefEqProofs only [go_sem, ↓reduceIte, Nat.reduceEqDiff, Nat.reduceAdd, Nat.reduceMul, Nat.reduceLT, Nat.reduceLeDiff, reduceCtorEq, Int.toNat_natCast, c4]) ?_
        refine AWP.skip ?_
        simp -implicitDefEqProofs only [go_sem, ↓reduceIte, Nat.reduceEqDiff, Nat.reduceAdd, Nat.reduceMul, Nat.reduceLT, Nat.reduceLeDiff, reduceCtorEq, Int.toNat_natCast]
        refine AWP.seqReg (by kernel_rfl) (fun E K hE hK => ?_); simp -implicitDefEqProofs only [go_sem, ↓reduceIte, Nat.reduceEqDiff, Nat.reduceAdd, Nat.reduceMul, Nat.reduceLT, Nat.reduceLeDiff, reduceCtorEq, Int.toNat_natCast, e8]
        refine CallR.use ((own_ok (l ++ [d]) hsz _ _).rowFrz (okEs_dn _)) body_65 ?_; rintro _ h_ ⟨rfl, e_⟩; rw [e_]; clear e_ h_; simp -implicitDefEqProofs only [go_sem, ↓reduceIte, Nat.reduceEqDiff, Nat.reduceAdd, Nat.reduceMul, Nat.reduceLT, Nat.reduceLeDiff, reduceCtorEq, Int.toNat_natCast]
        refine hK _ _ _ ?_; clear hE hK K E
        refine AWP.ret ?_
        exact Ends.pure hn H out (r0 := .tup [DonesV (l ++ [d]), IntV 0]) (by rw [show Tryd.f26.results.toList = [.tmp 6, .tmp 7] from rfl]; (first | (simp -implicitDefEqProofs only [go_sem, ↓reduceIte, Nat.reduceEqDiff, Nat.reduceAdd, Nat.reduceMul, Nat.reduceLT, Nat.reduceLeDiff, reduceCtorEq, Int.toNat_natCast]; done) | (simp -implicitDefEqProofs only [go_sem, ↓reduceIte, Nat.reduceEqDiff, Nat.reduceAdd, Nat.reduceMul, Nat.reduceLT, Nat.reduceLeDiff, reduceCtorEq, Int.toNat_natCast]; rfl) | rfl)) (frz_tup2 (frzV.p _) (.v _)) ⟨by rw [hadd2, if_neg (by omega)], rfl⟩

end Go.Proofs.YtengjcdilnikhaaDoor
