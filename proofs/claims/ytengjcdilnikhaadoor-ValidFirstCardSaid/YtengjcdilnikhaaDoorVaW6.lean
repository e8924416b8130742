/-
  Walks of package valid: Trim (slices.DeleteFunc of an own row); Walks of package valid: Trim.
-/
import Derived.Test.YtengjcdilnikhaaDoorVaW1
namespace Go.Proofs.YtengjcdilnikhaaDoor
set_option linter.unusedSimpArgs false
set_option linter.unusedVariables false
set_option linter.unnecessarySimpa false
open Go Am
set_option maxRecDepth 100000

theorem idxFrom_first {α : Type} (f : α → Bool) : ∀ (l : List α) (i : Nat), (idxFrom f i l = -1 ∧ ∀ x ∈ l, f x = false) ∨ ∃ j, ∃ hj : j < l.length, idxFrom f i l = ((i + j : Nat) : Int) ∧ f l[j] = true ∧ ∀ x ∈ l.take j, f x = false
  | [], i => .inl ⟨by simp [idxFrom], by simp⟩
  | x :: l, i => by
    unfold idxFrom
    by_cases h : f x = true
    · exact .inr ⟨0, by simp, by rw [if_pos h]; simp, by simpa using h, by simp⟩
    · rw [if_neg h]
      have h' : f x = false := by simpa using h
      rcases idxFrom_first f l (i + 1) with ⟨h1, h2⟩ | ⟨j, hj, h1, h2, h3⟩
      · exact .inl ⟨h1, by simp only [List.mem_cons, forall_eq_or_imp]; exact ⟨h', h2⟩⟩
      · refine .inr ⟨j + 1, by simp; omega, by rw [h1]; congr 1; omega, by simpa using h2, ?_⟩
        simp only [List.take_succ_cons, List.mem_cons, forall_eq_or_imp]; exact ⟨h', h3⟩

theorem row_setD (cur : List (List PD)) (ho : okEs 2 cur) (T : List Cell) (k : Nat) (hk : k < cur.length) (d : Dn) :
    List.take (k * 2) (List.map Cell.p cur.flatten ++ T) ++ .p (.v (.int .u64 d.gen)) :: .p (.sl 1 (d.names.map encS)) :: List.drop (k * 2 + 2) (List.map Cell.p cur.flatten ++ T) = (cur.set k (encD d)).flatten.map .p ++ T := by
  have h := spl_row (es := cur) (fs := [encD d]) (i := k) T ho (okEs_dn [d]) (by simp; omega)
  have e : cur.set k (encD d) = cur.take k ++ (encD d :: cur.drop (k + 1)) := by rw [List.set_eq_take_append_cons_drop, if_pos hk]
  rw [e]
  simpa [spl, encD] using h

theorem trim1_ok (d : Dn) (gen : Int) (h : Heap) (b : Nat) :
    ACalls Tryd.prog 67 [DoneV d, .one (.ro [.v (.int .u64 gen)])] h b 0 (fun r h' => r = BoolV (decide (d.gen ≤ gen)) ∧ h' = h) := by
  refine ACalls.enter Tryd.func67 rfl (by simp [Tryd.ntmps67]) (fun ι w hn H => ?_)
  refine AWP.seqReg (by kernel_rfl) (fun E K hE hK => ?_); simp -implicitDefEqProofs only [go_sem, ↓reduceIte, Nat.reduceEqDiff, Nat.reduceAdd, Nat.reduceMul, Nat.reduceLT, Nat.reduceLeDiff, reduceCtorEq, Int.toNat_natCast]; refine hK _ _ _ ?_; clear hE hK K E
  refine AWP.seqReg (by kernel_rfl) (fun E K hE hK => ?_); simp -implicitDefEqProofs only [go_sem, ↓reduceIte, Nat.reduceEqDiff, Nat.reduceAdd, Nat.reduceMul, Nat.reduceLT, Nat.reduceLeDiff, reduceCtorEq, Int.toNat_natCast]; refine hK _ _ _ ?_; clear hE hK K E
  refine AWP.ret ?_
  simp -implicitDefEqProofs only [go_sem, ↓reduceIte, Nat.reduceEqDiff, Nat.reduceAdd, Nat.reduceMul, Nat.reduceLT, Nat.reduceLeDiff, reduceCtorEq, Int.toNat_natCast]
  exact Ends.pure hn H (fun id (hid : id < b) => by simp -implicitDefEqProofs only [go_sem, ↓reduceIte, Nat.reduceEqDiff, Nat.reduceAdd, Nat.reduceMul, Nat.reduceLT, Nat.reduceLeDiff, reduceCtorEq, Int.toNat_natCast, show ¬ id = b by omega]) (r0 := BoolV (decide (d.gen ≤ gen))) (by rw [show Tryd.f67.results.toList = [.tmp 3] from rfl]; (first | (simp -implicitDefEqProofs only [go_sem, ↓reduceIte, Nat.reduceEqDiff, Nat.reduceAdd, Nat.reduceMul, Nat.reduceLT, Nat.reduceLeDiff, reduceCtorEq, Int.toNat_natCast]; done) | (simp -implicitDefEqProofs only [go_sem, ↓reduceIte, Nat.reduceEqDiff, Nat.reduceAdd, Nat.reduceMul, Nat.reduceLT, Nat.reduceLeDiff, reduceCtorEq, Int.toNat_natCast]; rfl) | rfl)) (.v _) ⟨rfl, rfl⟩

theorem take_set1 {α : Type} (l : List α) (k : Nat) (hk : k < l.length) (v : α) : List.take (k + 1) (l.set k v) = List.take k l ++ [v] := by
  simp [List.take_add_one, hk]
  rw [List.take_set]
  exact List.set_eq_of_length_le (by rw [List.length_take]; omega)
theorem cutH_out1 {b x : Nat} {h h0 : Heap} (hl : ∀ id blk, h0 id = some blk → ∀ c ∈ blk.cells, lowC b c = true) (e : h x = h0 x) (hx : x < b) : cutH (b + 0) h x = h0 x := by
  cases h1 : h0 x with
  | none => unfold cutH; rw [if_pos (by omega), e, h1]; rfl
  | some blk => exact cutH_same (by omega) (e.trans h1) (lowCs_of fun c hc => hl x blk h1 c hc)

/-- at the head of DeleteFunc's loop -/
def delI (g : FuncId) (cs : List Cell) (f : Dn → Bool) (l : List Dn) (h : Heap) (b id ver cap : Nat) (T : List Cell) (i : Nat) (st : St) : Prop :=
  ∃ (k : Nat) (cur : List (List PD)), k < i ∧ st.h id = some (rowB ver cur T) ∧ (∀ x, x < b → x ≠ id → st.h x = h x) ∧ st.t 0 = .one (.win id ver 0 l.length cap) ∧ st.t 1 = .one (.clo (.func g) [] cs) ∧ st.t 5 = IntV k ∧ st.t 6 = IntV i ∧
    okEs 2 cur ∧ cur.length = l.length ∧ cur.take k = ((l.take i).filter (fun d => !f d)).map encD ∧ cur.drop i = (l.drop i).map encD

theorem deleteF_ok (g : FuncId) (cs : List Cell) (f : Dn → Bool) (l : List Dn) (hl : l.length ≤ 1000000) (hg : bodyB Tryd.prog g = true) (hcs : ∀ m, lowCs m cs = true)
    (hcl : ∀ (h : Heap) (b : Nat), ∀ d ∈ l, ACalls Tryd.prog g (DoneV d :: cs.map .one) h b 0 (fun r h' => r = BoolV (f d) ∧ h' = h))
    (h : Heap) (b id ver cap : Nat) (T : List Cell) (hid : id < b) (hb : h id = some (rowB ver (l.map encD) T)) (hT : lowCs 0 T = true) (hcap : l.length ≤ cap) (hc : cap * 2 = l.length * 2 + T.length) :
    ACalls Tryd.prog 66 [.one (.win id ver 0 l.length cap), .one (.clo (.func g) [] cs)] h b 0 (rowR 2 ((l.filter (fun d => !f d)).map encD) h id) := by
  refine ACalls.enter Tryd.func66 rfl (by simp [Tryd.ntmps66]) (fun ι w hn H => ?_)
  have hlow := H.lowCells
  have hlm : (l.map encD).length = l.length := List.length_map _
  have cidx : ∀ b' : Nat, ACalls Tryd.prog 58 [.one (.win id ver 0 l.length cap), .one (.clo (.func g) [] cs)] h b' 0 (fun r h' => r = IntV (idxFrom f 0 l) ∧ h' = h) := by
    intro b'
    have c := index_dn_ok g cs f l noH b' hg (hcs _) (by omega) (fun x hx => hcl _ _ x hx)
    have v := view_row (h := h) (D := fun _ => true) (id := id) (ver := ver) (sz := 2) (m := l.length) (j := 0) (off := 0) (cap := cap) rfl hb (okEs_dn l) (by rw [hlm]; omega) rfl
    rw [List.drop_zero, ← hlm, List.take_length, hlm] at v
    exact c.lend (.cons (.one v) (.cons (.same _) .nil)) (.one _)
  refine AWP.seqReg (by kernel_rfl) (fun E K hE hK => ?_); simp -implicitDefEqProofs only [go_sem, ↓reduceIte, Nat.reduceEqDiff, Nat.reduceAdd, Nat.reduceMul, Nat.reduceLT, Nat.reduceLeDiff, reduceCtorEq, Int.toNat_natCast]; refine hK _ _ _ ?_; clear hE hK K E
  refine AWP.seqReg (by kernel_rfl) (fun E K hE hK => ?_); simp -implicitDefEqProofs only [go_sem, ↓reduceIte, Nat.reduceEqDiff, Nat.reduceAdd, Nat.reduceMul, Nat.reduceLT, Nat.reduceLeDiff, reduceCtorEq, Int.toNat_natCast]
  refine CallR.use (cidx _) body_58 ?_; rintro _ h_ ⟨rfl, e_⟩; rw [e_]; clear e_ h_; simp -implicitDefEqProofs only [go_sem, ↓reduceIte, Nat.reduceEqDiff, Nat.reduceAdd, Nat.reduceMul, Nat.reduceLT, Nat.reduceLeDiff, reduceCtorEq, Int.toNat_natCast]
  refine hK _ _ _ ?_; clear hE hK K E
  refine AWP.seq ?_
  refine AWP.seqReg (by kernel_rfl) (fun E K hE hK => ?_); simp -implicitDefEqProofs only [go_sem, ↓reduceIte, Nat.reduceEqDiff, Nat.reduceAdd, Nat.reduceMul, Nat.reduceLT, Nat.reduceLeDiff, reduceCtorEq, Int.toNat_natCast]; refine hK _ _ _ ?_; clear hE hK K E
  rcases idxFrom_first f l 0 with ⟨h1, h2⟩ | ⟨j, hj, h1, h2, h3⟩
  · have he : l.filter (fun d => !f d) = l := List.filter_eq_self.2 (fun a ha => by rw [h2 a ha]; rfl)
    refine AWP.ifT (by simp -implicitDefEqProofs only [go_sem, ↓reduceIte, Nat.reduceEqDiff, Nat.reduceAdd, Nat.reduceMul, Nat.reduceLT, Nat.reduceLeDiff, reduceCtorEq, Int.toNat_natCast, h1]) ?_
    refine AWP.seqReg (by kernel_rfl) (fun E K hE hK => ?_); simp -implicitDefEqProofs only [go_sem, ↓reduceIte, Nat.reduceEqDiff, Nat.reduceAdd, Nat.reduceMul, Nat.reduceLT, Nat.reduceLeDiff, reduceCtorEq, Int.toNat_natCast]; refine hK _ _ _ ?_; clear hE hK K E
    refine AWP.ret ?_
    simp -implicitDefEqProofs only [go_sem, ↓reduceIte, Nat.reduceEqDiff, Nat.reduceAdd, Nat.reduceMul, Nat.reduceLT, Nat.reduceLeDiff, reduceCtorEq, Int.toNat_natCast]
    refine Ends.turn hn H hid (fun k _ => by rw [upd_self hb]) (lowCs_app (lowCs_p _ _) (lowCs_mono (Nat.zero_le _) hT)) (r0 := .one (.win id ver 0 l.length cap))
      (by rw [show Tryd.f66.results.toList = [.tmp 4] from rfl]; (first | (simp -implicitDefEqProofs only [go_sem, ↓reduceIte, Nat.reduceEqDiff, Nat.reduceAdd, Nat.reduceMul, Nat.reduceLT, Nat.reduceLeDiff, reduceCtorEq, Int.toNat_natCast]; done) | (simp -implicitDefEqProofs only [go_sem, ↓reduceIte, Nat.reduceEqDiff, Nat.reduceAdd, Nat.reduceMul, Nat.reduceLT, Nat.reduceLeDiff, reduceCtorEq, Int.toNat_natCast]; rfl) | rfl)) (.one (.inl ⟨rfl, by simp [lowC, hid]⟩)) ?_
    rw [he]
    exact ⟨ver, cap, T, by omega, by omega, hT, by rw [hlm], rfl⟩
  rw [Nat.zero_add] at h1
  have hw0 : IntKind.i64.wrap ((j : Int) + 1) = ((j + 1 : Nat) : Int) := by rw [wrap_i64 (by omega) (by omega)]; rfl
  refine AWP.ifF (by simp -implicitDefEqProofs only [go_sem, ↓reduceIte, Nat.reduceEqDiff, Nat.reduceAdd, Nat.reduceMul, Nat.reduceLT, Nat.reduceLeDiff, reduceCtorEq, Int.toNat_natCast, h1, show ¬ (j : Int) = -1 by omega]) ?_; refine AWP.skip ?_; simp -implicitDefEqProofs only [go_sem, ↓reduceIte, Nat.reduceEqDiff, Nat.reduceAdd, Nat.reduceMul, Nat.reduceLT, Nat.reduceLeDiff, reduceCtorEq, Int.toNat_natCast]
  refine AWP.seq ?_
  refine AWP.seqReg (by kernel_rfl) (fun E K hE hK => ?_); simp -implicitDefEqProofs only [go_sem, ↓reduceIte, Nat.reduceEqDiff, Nat.reduceAdd, Nat.reduceMul, Nat.reduceLT, Nat.reduceLeDiff, reduceCtorEq, Int.toNat_natCast, h1, hw0]; refine hK _ _ _ ?_; clear hE hK K E
  refine AWP.block ?_
  have hpre : (l.take (j + 1)).filter (fun d => !f d) = l.take j := by
    rw [List.take_add_one, List.filter_append, List.getElem?_eq_getElem hj]
    have : (l.take j).filter (fun d => !f d) = l.take j := List.filter_eq_self.2 (fun a ha => by rw [h3 a ha]; rfl)
    rw [this]; simp [h2]
  refine AWP.loopM 0 (fun m st => ∃ i, i ≤ l.length ∧ m = l.length - i ∧ delI g cs f l h b id ver cap T i st) (l.length - (j + 1)) rfl ⟨j + 1, hj, rfl, j, l.map encD, Nat.lt_succ_self _, by (first | (simp -implicitDefEqProofs only [go_sem, ↓reduceIte, Nat.reduceEqDiff, Nat.reduceAdd, Nat.reduceMul, Nat.reduceLT, Nat.reduceLeDiff, reduceCtorEq, Int.toNat_natCast, hb]; done) | (simp -implicitDefEqProofs only [go_sem, ↓reduceIte, Nat.reduceEqDiff, Nat.reduceAdd, Nat.reduceMul, Nat.reduceLT, Nat.reduceLeDiff, reduceCtorEq, Int.toNat_natCast, hb]; rfl) | rfl), fun x hx hne => by (first | (simp -implicitDefEqProofs only [go_sem, ↓reduceIte, Nat.reduceEqDiff, Nat.reduceAdd, Nat.reduceMul, Nat.reduceLT, Nat.reduceLeDiff, reduceCtorEq, Int.toNat_natCast]; done) | (simp -implicitDefEqProofs only [go_sem, ↓reduceIte, Nat.reduceEqDiff, Nat.reduceAdd, Nat.reduceMul, Nat.reduceLT, Nat.reduceLeDiff, reduceCtorEq, Int.toNat_natCast]; rfl) | rfl), by (first | (simp -implicitDefEqProofs only [go_sem, ↓reduceIte, Nat.reduceEqDiff, Nat.reduceAdd, Nat.reduceMul, Nat.reduceLT, Nat.reduceLeDiff, reduceCtorEq, Int.toNat_natCast]; done) | (simp -implicitDefEqProofs only [go_sem, ↓reduceIte, Nat.reduceEqDiff, Nat.reduceAdd, Nat.reduceMul, Nat.reduceLT, Nat.reduceLeDiff, reduceCtorEq, Int.toNat_natCast]; rfl) | rfl), by (first | (simp -implicitDefEqProofs only [go_sem, ↓reduceIte, Nat.reduceEqDiff, Nat.reduceAdd, Nat.reduceMul, Nat.reduceLT, Nat.reduceLeDiff, reduceCtorEq, Int.toNat_natCast]; done) | (simp -implicitDefEqProofs only [go_sem, ↓reduceIte, Nat.reduceEqDiff, Nat.reduceAdd, Nat.reduceMul, Nat.reduceLT, Nat.reduceLeDiff, reduceCtorEq, Int.toNat_natCast]; rfl) | rfl), by (first | (simp -implicitDefEqProofs only [go_sem, ↓reduceIte, Nat.reduceEqDiff, Nat.reduceAdd, Nat.reduceMul, Nat.reduceLT, Nat.reduceLeDiff, reduceCtorEq, Int.toNat_natCast, h1]; done) | (simp -implicitDefEqProofs only [go_sem, ↓reduceIte, Nat.reduceEqDiff, Nat.reduceAdd, Nat.reduceMul, Nat.reduceLT, Nat.reduceLeDiff, reduceCtorEq, Int.toNat_natCast, h1]; rfl) | rfl), by (first | (simp -implicitDefEqProofs only [go_sem, ↓reduceIte, Nat.reduceEqDiff, Nat.reduceAdd, Nat.reduceMul, Nat.reduceLT, Nat.reduceLeDiff, reduceCtorEq, Int.toNat_natCast]; done) | (simp -implicitDefEqProofs only [go_sem, ↓reduceIte, Nat.reduceEqDiff, Nat.reduceAdd, Nat.reduceMul, Nat.reduceLT, Nat.reduceLeDiff, reduceCtorEq, Int.toNat_natCast]; rfl) | rfl), okEs_dn l, hlm, by rw [hpre, List.map_take], by rw [List.map_drop]⟩ ?_
  rintro m ⟨t, hh, n⟩ ⟨i, hi, rfl, k, cur, hki, hb1, ho, e0, e1, e5, e6, hok, hcl1, htk, hdr⟩ hn1
  simp only at hb1 ho e0 e1 e5 e6 hn1
  subst hn1
  refine AWP.seq ?_
  refine AWP.seqReg (by kernel_rfl) (fun E K hE hK => ?_); simp -implicitDefEqProofs only [go_sem, ↓reduceIte, Nat.reduceEqDiff, Nat.reduceAdd, Nat.reduceMul, Nat.reduceLT, Nat.reduceLeDiff, reduceCtorEq, Int.toNat_natCast, e0, e6, hb1]; refine hK _ _ _ ?_; clear hE hK K E
  by_cases hlt : (i : Int) < l.length
  · have hw1 : IntKind.i64.wrap ((i : Int) + 1) = ((i + 1 : Nat) : Int) := by rw [wrap_i64 (by omega) (by omega)]; rfl
    have hw2 : IntKind.i64.wrap ((k : Int) + 1) = ((k + 1 : Nat) : Int) := by rw [wrap_i64 (by omega) (by omega)]; rfl
    have hi2 : i < l.length := by omega
    have hci : cur[i]? = some (encD l[i]) := by
      have := congrArg (fun x => x[0]?) hdr
      simp only [List.getElem?_drop, List.getElem?_map, Nat.add_zero] at this
      rw [this, List.getElem?_eq_getElem hi2]; rfl
    have hpart := row_part T hok hci
    have hfi : (l.take (i + 1)).filter (fun d => !f d) = (l.take i).filter (fun d => !f d) ++ (if f l[i] = true then [] else [l[i]]) := by
      rw [List.take_add_one, List.filter_append, List.getElem?_eq_getElem hi2]
      cases hfd : f l[i] <;> simp [hfd]
    have hdr2 : cur.drop (i + 1) = (l.drop (i + 1)).map encD := by
      have := congrArg (List.drop 1) hdr
      rwa [List.drop_drop, ← List.map_drop, List.drop_drop] at this
    obtain ⟨d, hd⟩ : ∃ d, l[i] = d := ⟨_, rfl⟩
    have hdm : d ∈ l := by rw [← hd]; exact List.getElem_mem hi2
    rw [hd] at hci hpart hfi
    have hlen2 : (cur.flatten.map Cell.p ++ T).length = l.length * 2 + T.length := by rw [List.length_append, List.length_map, okEs_len hok, hcl1]
    have hb' : hh id = some ⟨ver, cur.flatten.map Cell.p ++ T⟩ := hb1
    have hset := row_setD cur hok T k (by omega) d
    generalize hL : cur.flatten.map Cell.p ++ T = L at hb' hpart hlen2 hset
    have hpart' : List.take 2 (List.drop (0 + i * 2) L) = [.p (.v (.int .u64 d.gen)), .p (.sl 1 (d.names.map encS))] := by rw [Nat.zero_add]; exact hpart
    have hle : 0 + i * 2 + 2 ≤ L.length := by omega
    have hle2 : 0 + k * 2 + 2 ≤ L.length := by omega
    have hlk : (k : Int) < l.length := by omega
    have nb : ¬ id = b := by omega
    have nb' : ¬ b = id := by omega
    refine AWP.ifT (by simp -implicitDefEqProofs only [go_sem, ↓reduceIte, Nat.reduceEqDiff, Nat.reduceAdd, Nat.reduceMul, Nat.reduceLT, Nat.reduceLeDiff, reduceCtorEq, Int.toNat_natCast, hlt]) ?_
    refine AWP.skip ?_
    simp -implicitDefEqProofs only [go_sem, ↓reduceIte, Nat.reduceEqDiff, Nat.reduceAdd, Nat.reduceMul, Nat.reduceLT, Nat.reduceLeDiff, reduceCtorEq, Int.toNat_natCast]
    refine AWP.seq ?_
    refine AWP.block ?_
    refine AWP.seqReg (by kernel_rfl) (fun E K hE hK => ?_); simp -implicitDefEqProofs only [go_sem, ↓reduceIte, Nat.reduceEqDiff, Nat.reduceAdd, Nat.reduceMul, Nat.reduceLT, Nat.reduceLeDiff, reduceCtorEq, Int.toNat_natCast, e0, e6, hb', hlt, hpart, hpart']
    refine ⟨by omega, by omega, ?_⟩
    refine hK _ _ _ ?_; clear hE hK K E
    refine AWP.seqReg (by kernel_rfl) (fun E K hE hK => ?_); simp -implicitDefEqProofs only [go_sem, ↓reduceIte, Nat.reduceEqDiff, Nat.reduceAdd, Nat.reduceMul, Nat.reduceLT, Nat.reduceLeDiff, reduceCtorEq, Int.toNat_natCast, e1]
    refine CallR.use (hcl _ _ d hdm) hg ?_
    rintro _ _ ⟨rfl, rfl⟩
    simp -implicitDefEqProofs only [go_sem, ↓reduceIte, Nat.reduceEqDiff, Nat.reduceAdd, Nat.reduceMul, Nat.reduceLT, Nat.reduceLeDiff, reduceCtorEq, Int.toNat_natCast]
    cases hfd : f d
    · rw [hfd, if_neg (by simp)] at hfi
      have hkl : k = ((l.take i).filter (fun d => !f d)).length := by
        have := congrArg List.length htk
        rw [List.length_map, List.length_take, hcl1, Nat.min_eq_left (by omega)] at this
        exact this
      simp -implicitDefEqProofs only [go_sem, ↓reduceIte, Nat.reduceEqDiff, Nat.reduceAdd, Nat.reduceMul, Nat.reduceLT, Nat.reduceLeDiff, reduceCtorEq, Int.toNat_natCast, hfd]
      refine hK _ _ _ ?_; clear hE hK K E
      refine AWP.ifT (by simp -implicitDefEqProofs only [go_sem, ↓reduceIte, Nat.reduceEqDiff, Nat.reduceAdd, Nat.reduceMul, Nat.reduceLT, Nat.reduceLeDiff, reduceCtorEq, Int.toNat_natCast]) ?_
      refine AWP.seqReg (by kernel_rfl) (fun E K hE hK => ?_); simp -implicitDefEqProofs only [go_sem, ↓reduceIte, Nat.reduceEqDiff, Nat.reduceAdd, Nat.reduceMul, Nat.reduceLT, Nat.reduceLeDiff, reduceCtorEq, Int.toNat_natCast, e0, e5, hb', hlk, nb, nb']
      refine ⟨by omega, by omega, ?_⟩
      refine hK _ _ _ ?_; clear hE hK K E
      refine AWP.reg (by kernel_rfl) (fun E K hE hK => ?_); simp -implicitDefEqProofs only [go_sem, ↓reduceIte, Nat.reduceEqDiff, Nat.reduceAdd, Nat.reduceMul, Nat.reduceLT, Nat.reduceLeDiff, reduceCtorEq, Int.toNat_natCast, e5, hw2]; refine hK _ _ _ ?_; clear hE hK K E
      simp -implicitDefEqProofs only [go_sem, ↓reduceIte, Nat.reduceEqDiff, Nat.reduceAdd, Nat.reduceMul, Nat.reduceLT, Nat.reduceLeDiff, reduceCtorEq, Int.toNat_natCast]
      refine AWP.reg (by kernel_rfl) (fun E K hE hK => ?_); simp -implicitDefEqProofs only [go_sem, ↓reduceIte, Nat.reduceEqDiff, Nat.reduceAdd, Nat.reduceMul, Nat.reduceLT, Nat.reduceLeDiff, reduceCtorEq, Int.toNat_natCast, e6, hw1]; refine hK _ _ _ ?_; clear hE hK K E
      rw [hset]
      refine ⟨l.length - (i + 1), by omega, i + 1, by omega, rfl, k + 1, cur.set k (encD d), by omega, cutH_same hid (by (first | (simp -implicitDefEqProofs only [go_sem, ↓reduceIte, Nat.reduceEqDiff, Nat.reduceAdd, Nat.reduceMul, Nat.reduceLT, Nat.reduceLeDiff, reduceCtorEq, Int.toNat_natCast]; done) | (simp -implicitDefEqProofs only [go_sem, ↓reduceIte, Nat.reduceEqDiff, Nat.reduceAdd, Nat.reduceMul, Nat.reduceLT, Nat.reduceLeDiff, reduceCtorEq, Int.toNat_natCast]; rfl) | rfl)) (lowCs_app (lowCs_p _ _) (lowCs_mono (Nat.zero_le _) hT)), fun x hx hne => ?_, by simp -implicitDefEqProofs only [go_sem, ↓reduceIte, Nat.reduceEqDiff, Nat.reduceAdd, Nat.reduceMul, Nat.reduceLT, Nat.reduceLeDiff, reduceCtorEq, Int.toNat_natCast, e0]; exact cutV_win hid, by simp -implicitDefEqProofs only [go_sem, ↓reduceIte, Nat.reduceEqDiff, Nat.reduceAdd, Nat.reduceMul, Nat.reduceLT, Nat.reduceLeDiff, reduceCtorEq, Int.toNat_natCast, e1]; exact cutV_clo (hcs _), by (first | (simp -implicitDefEqProofs only [go_sem, ↓reduceIte, Nat.reduceEqDiff, Nat.reduceAdd, Nat.reduceMul, Nat.reduceLT, Nat.reduceLeDiff, reduceCtorEq, Int.toNat_natCast]; done) | (simp -implicitDefEqProofs only [go_sem, ↓reduceIte, Nat.reduceEqDiff, Nat.reduceAdd, Nat.reduceMul, Nat.reduceLT, Nat.reduceLeDiff, reduceCtorEq, Int.toNat_natCast]; rfl) | rfl), by (first | (simp -implicitDefEqProofs only [go_sem, ↓reduceIte, Nat.reduceEqDiff, Nat.reduceAdd, Nat.reduceMul, Nat.reduceLT, Nat.reduceLeDiff, reduceCtorEq, Int.toNat_natCast]; done) | (simp -implicitDefEqProofs only [go_sem, ↓reduceIte, Nat.reduceEqDiff, Nat.reduceAdd, Nat.reduceMul, Nat.reduceLT, Nat.reduceLeDiff, reduceCtorEq, Int.toNat_natCast]; rfl) | rfl), fun e he => ?_, by rw [List.length_set, hcl1], ?_, ?_⟩
      · exact cutH_out1 hlow (by simp -implicitDefEqProofs only [go_sem, ↓reduceIte, Nat.reduceEqDiff, Nat.reduceAdd, Nat.reduceMul, Nat.reduceLT, Nat.reduceLeDiff, reduceCtorEq, Int.toNat_natCast, hne, show ¬ x = b by omega]; exact ho x hx hne) hx
      · rcases List.mem_or_eq_of_mem_set he with he | rfl
        · exact hok e he
        · exact okEs_dn [d] _ (by simp)
      · rw [hfi, List.map_append, ← htk]
        exact (by rw [take_set1 _ _ (by omega)] : List.take (k + 1) (cur.set k (encD d)) = List.take k cur ++ [encD d])
      · rw [List.drop_set_of_lt (by omega), hdr2]
    · rw [hfd, if_pos rfl, List.append_nil] at hfi
      simp -implicitDefEqProofs only [go_sem, ↓reduceIte, Nat.reduceEqDiff, Nat.reduceAdd, Nat.reduceMul, Nat.reduceLT, Nat.reduceLeDiff, reduceCtorEq, Int.toNat_natCast, hfd]
      refine hK _ _ _ ?_; clear hE hK K E
      refine AWP.ifF (by simp -implicitDefEqProofs only [go_sem, ↓reduceIte, Nat.reduceEqDiff, Nat.reduceAdd, Nat.reduceMul, Nat.reduceLT, Nat.reduceLeDiff, reduceCtorEq, Int.toNat_natCast]) ?_; refine AWP.skip ?_; simp -implicitDefEqProofs only [go_sem, ↓reduceIte, Nat.reduceEqDiff, Nat.reduceAdd, Nat.reduceMul, Nat.reduceLT, Nat.reduceLeDiff, reduceCtorEq, Int.toNat_natCast]
      refine AWP.reg (by kernel_rfl) (fun E K hE hK => ?_); simp -implicitDefEqProofs only [go_sem, ↓reduceIte, Nat.reduceEqDiff, Nat.reduceAdd, Nat.reduceMul, Nat.reduceLT, Nat.reduceLeDiff, reduceCtorEq, Int.toNat_natCast, e6, hw1]; refine hK _ _ _ ?_; clear hE hK K E
      refine ⟨l.length - (i + 1), by omega, i + 1, by omega, rfl, k, cur, by omega, cutH_same hid (by (first | (simp -implicitDefEqProofs only [go_sem, ↓reduceIte, Nat.reduceEqDiff, Nat.reduceAdd, Nat.reduceMul, Nat.reduceLT, Nat.reduceLeDiff, reduceCtorEq, Int.toNat_natCast, hb1, nb]; done) | (simp -implicitDefEqProofs only [go_sem, ↓reduceIte, Nat.reduceEqDiff, Nat.reduceAdd, Nat.reduceMul, Nat.reduceLT, Nat.reduceLeDiff, reduceCtorEq, Int.toNat_natCast, hb1, nb]; rfl) | rfl)) (lowCs_app (lowCs_p _ _) (lowCs_mono (Nat.zero_le _) hT)), fun x hx hne => ?_, by simp -implicitDefEqProofs only [go_sem, ↓reduceIte, Nat.reduceEqDiff, Nat.reduceAdd, Nat.reduceMul, Nat.reduceLT, Nat.reduceLeDiff, reduceCtorEq, Int.toNat_natCast, e0]; exact cutV_win hid, by simp -implicitDefEqProofs only [go_sem, ↓reduceIte, Nat.reduceEqDiff, Nat.reduceAdd, Nat.reduceMul, Nat.reduceLT, Nat.reduceLeDiff, reduceCtorEq, Int.toNat_natCast, e1]; exact cutV_clo (hcs _), by simp -implicitDefEqProofs only [go_sem, ↓reduceIte, Nat.reduceEqDiff, Nat.reduceAdd, Nat.reduceMul, Nat.reduceLT, Nat.reduceLeDiff, reduceCtorEq, Int.toNat_natCast, e5], by (first | (simp -implicitDefEqProofs only [go_sem, ↓reduceIte, Nat.reduceEqDiff, Nat.reduceAdd, Nat.reduceMul, Nat.reduceLT, Nat.reduceLeDiff, reduceCtorEq, Int.toNat_natCast]; done) | (simp -implicitDefEqProofs only [go_sem, ↓reduceIte, Nat.reduceEqDiff, Nat.reduceAdd, Nat.reduceMul, Nat.reduceLT, Nat.reduceLeDiff, reduceCtorEq, Int.toNat_natCast]; rfl) | rfl), hok, hcl1, ?_, hdr2⟩
      · exact cutH_out1 hlow (by simp -implicitDefEqProofs only [go_sem, ↓reduceIte, Nat.reduceEqDiff, Nat.reduceAdd, Nat.reduceMul, Nat.reduceLT, Nat.reduceLeDiff, reduceCtorEq, Int.toNat_natCast, hne, show ¬ x = b by omega]; exact ho x hx hne) hx
      · rw [hfi, htk]
  · have hil : i = l.length := by omega
    subst hil
    rw [List.take_length] at htk
    have hflen := congrArg List.length htk
    rw [List.length_map, List.length_take, hcl1, Nat.min_eq_left (by omega)] at hflen
    have hfe : (l.filter (fun d => !f d)).map encD = cur.take k := htk.symm
    rw [hfe]
    have ho2 : okEs 2 (cur.take k) := hok.take k
    have hnl : (cur.take k).length = k := by rw [List.length_take]; omega
    have hsplit : cur.flatten.map Cell.p ++ T = (cur.take k).flatten.map .p ++ ((cur.drop k).flatten.map .p ++ T) := by
      rw [← List.append_assoc, ← List.map_append, ← List.flatten_append, List.take_append_drop]
    have hb2 : hh id = some ⟨ver, (cur.take k).flatten.map Cell.p ++ ((cur.drop k).flatten.map .p ++ T)⟩ := by rw [hb1, ← hsplit]
    generalize hT1 : (cur.drop k).flatten.map Cell.p ++ T = T1 at hb2
    have hT1l : T1.length = (l.length - k) * 2 + T.length := by
      rw [← hT1, List.length_append, List.length_map, okEs_len (hok.drop k), List.length_drop, hcl1]
    have hT1low : lowCs 0 T1 = true := by rw [← hT1]; exact lowCs_app (lowCs_p _ _) hT
    generalize cur.take k = es2 at hb2 ho2 hnl ⊢
    refine AWP.ifF (by simp -implicitDefEqProofs only [go_sem, ↓reduceIte, Nat.reduceEqDiff, Nat.reduceAdd, Nat.reduceMul, Nat.reduceLT, Nat.reduceLeDiff, reduceCtorEq, Int.toNat_natCast, hlt]) ?_
    refine AWP.exit ?_
    simp -implicitDefEqProofs only [go_sem, ↓reduceIte, Nat.reduceEqDiff, Nat.reduceAdd, Nat.reduceMul, Nat.reduceLT, Nat.reduceLeDiff, reduceCtorEq, Int.toNat_natCast]
    refine AWP.seqReg (by kernel_rfl) (fun E K hE hK => ?_); simp -implicitDefEqProofs only [go_sem, ↓reduceIte, Nat.reduceEqDiff, Nat.reduceAdd, Nat.reduceMul, Nat.reduceLT, Nat.reduceLeDiff, reduceCtorEq, Int.toNat_natCast, e0, e5, hb2]
    refine ⟨⟨by omega, by omega⟩, ?_⟩
    have hne : ¬ cap = k := by omega
    rw [if_neg hne]
    refine BiR.of ?_
    refine BiK.clear (e := 34) (sz := 2) ty_slE_22 ty_tzero_34 rfl (by decide) hb2 rfl (by simp only [List.length_append, List.length_map, okEs_len ho2, hnl, hT1l]; omega) ?_
    rw [spl_tail (by rw [List.length_map, okEs_len ho2, hnl])]
    simp -implicitDefEqProofs only [go_sem, ↓reduceIte, Nat.reduceEqDiff, Nat.reduceAdd, Nat.reduceMul, Nat.reduceLT, Nat.reduceLeDiff, reduceCtorEq, Int.toNat_natCast]
    refine hK _ _ _ ?_; clear hE hK K E
    refine AWP.seqReg (by kernel_rfl) (fun E K hE hK => ?_); simp -implicitDefEqProofs only [go_sem, ↓reduceIte, Nat.reduceEqDiff, Nat.reduceAdd, Nat.reduceMul, Nat.reduceLT, Nat.reduceLeDiff, reduceCtorEq, Int.toNat_natCast, e0, e5]
    refine ⟨⟨by omega, by omega⟩, ?_⟩
    refine hK _ _ _ ?_; clear hE hK K E
    refine AWP.ret ?_
    simp -implicitDefEqProofs only [go_sem, ↓reduceIte, Nat.reduceEqDiff, Nat.reduceAdd, Nat.reduceMul, Nat.reduceLT, Nat.reduceLeDiff, reduceCtorEq, Int.toNat_natCast]
    have hupd : ∀ (B : Blk) (x : Nat), x < b → upd hh id B x = upd h id B x := fun B x hx => by
      by_cases hx2 : x = id
      · subst hx2; rw [upd_same, upd_same]
      · rw [upd_ne _ _ _ _ hx2, upd_ne _ _ _ _ hx2]; exact ho x hx hx2
    refine Ends.turn hn H hid (fun x hx => hupd _ x hx) (lowCs_app (lowCs_p _ _) (lowCs_app (lowCs_repl rfl _) (lowCs_mono (Nat.zero_le _) (lowCs_drop hT1low _)))) (r0 := .one (.win id ver 0 es2.length cap))
      (by rw [show Tryd.f66.results.toList = [.tmp 4] from rfl, hnl]; (first | (simp -implicitDefEqProofs only [go_sem, ↓reduceIte, Nat.reduceEqDiff, Nat.reduceAdd, Nat.reduceMul, Nat.reduceLT, Nat.reduceLeDiff, reduceCtorEq, Int.toNat_natCast]; done) | (simp -implicitDefEqProofs only [go_sem, ↓reduceIte, Nat.reduceEqDiff, Nat.reduceAdd, Nat.reduceMul, Nat.reduceLT, Nat.reduceLeDiff, reduceCtorEq, Int.toNat_natCast]; rfl) | rfl)) (.one (.inl ⟨rfl, by simp [lowC, hid]⟩)) ⟨ver, cap, _, by omega, ?_, ?_, rfl, rfl⟩
    · simp only [List.length_append, List.length_drop, hT1l, hnl, repl_length, List.length_map, List.length_cons, List.length_nil]
      omega
    · exact lowCs_app (lowCs_repl rfl _) (lowCs_drop hT1low _)
end Go.Proofs.YtengjcdilnikhaaDoor

namespace Go.Proofs.YtengjcdilnikhaaDoor
set_option linter.unusedSimpArgs false
set_option linter.unusedVariables false
set_option linter.unnecessarySimpa false
open Go Am
set_option maxRecDepth 100000

theorem vTrim_ok (l : List Dn) (gen : Int) (hl : sizeD l) (h : Heap) (b : Nat) :
    ACalls Tryd.prog 27 [DonesV l, U64V gen] h b 0 (fun r h' => r = .tup [DonesV (trimR l gen).1, IntV (trimR l gen).2] ∧ h' = h) := by
  refine ACalls.enter Tryd.func27 rfl (by simp [Tryd.ntmps27]) (fun ι w hn H => ?_)
  have hl1 := hl.1
  refine AWP.seqReg (by kernel_rfl) (fun E K hE hK => ?_); simp -implicitDefEqProofs only [go_sem, ↓reduceIte, Nat.reduceEqDiff, Nat.reduceAdd, Nat.reduceMul, Nat.reduceLT, Nat.reduceLeDiff, reduceCtorEq, Int.toNat_natCast]; refine hK _ _ _ ?_; clear hE hK K E
  refine AWP.seq ?_
  refine AWP.seqReg (by kernel_rfl) (fun E K hE hK => ?_); simp -implicitDefEqProofs only [go_sem, ↓reduceIte, Nat.reduceEqDiff, Nat.reduceAdd, Nat.reduceMul, Nat.reduceLT, Nat.reduceLeDiff, reduceCtorEq, Int.toNat_natCast]
  refine CallR.use (vCheck_ok l hl _ _) body_18 ?_; rintro _ h_ ⟨rfl, e_⟩; rw [e_]; clear e_ h_; simp -implicitDefEqProofs only [go_sem, ↓reduceIte, Nat.reduceEqDiff, Nat.reduceAdd, Nat.reduceMul, Nat.reduceLT, Nat.reduceLeDiff, reduceCtorEq, Int.toNat_natCast]
  refine hK _ _ _ ?_; clear hE hK K E
  refine AWP.seqReg (by kernel_rfl) (fun E K hE hK => ?_); simp -implicitDefEqProofs only [go_sem, ↓reduceIte, Nat.reduceEqDiff, Nat.reduceAdd, Nat.reduceMul, Nat.reduceLT, Nat.reduceLeDiff, reduceCtorEq, Int.toNat_natCast]; refine hK _ _ _ ?_; clear hE hK K E
  by_cases c1 : checkX l = 0
  case neg =>
    refine AWP.ifT (by simp -implicitDefEqProofs only [go_sem, ↓reduceIte, Nat.reduceEqDiff, Nat.reduceAdd, Nat.reduceMul, Nat.reduceLT, Nat.reduceLeDiff, reduceCtorEq, Int.toNat_natCast, c1]) ?_
    refine AWP.seqReg (by kernel_rfl) (fun E K hE hK => ?_); simp -implicitDefEqProofs only [go_sem, ↓reduceIte, Nat.reduceEqDiff, Nat.reduceAdd, Nat.reduceMul, Nat.reduceLT, Nat.reduceLeDiff, reduceCtorEq, Int.toNat_natCast]; refine hK _ _ _ ?_; clear hE hK K E
    refine AWP.ret ?_
    simp -implicitDefEqProofs only [go_sem, ↓reduceIte, Nat.reduceEqDiff, Nat.reduceAdd, Nat.reduceMul, Nat.reduceLT, Nat.reduceLeDiff, reduceCtorEq, Int.toNat_natCast]
    exact Ends.pure hn H (fun id (hid : id < b) => by simp -implicitDefEqProofs only [go_sem, ↓reduceIte, Nat.reduceEqDiff, Nat.reduceAdd, Nat.reduceMul, Nat.reduceLT, Nat.reduceLeDiff, reduceCtorEq, Int.toNat_natCast, show ¬ id = b by omega]) (r0 := .tup [.one (.p (.v (.slice none 0 0))), IntV (checkX l)]) (by rw [show Tryd.f27.results.toList = [.tmp 4, .tmp 5] from rfl]; (first | (simp -implicitDefEqProofs only [go_sem, ↓reduceIte, Nat.reduceEqDiff, Nat.reduceAdd, Nat.reduceMul, Nat.reduceLT, Nat.reduceLeDiff, reduceCtorEq, Int.toNat_natCast]; done) | (simp -implicitDefEqProofs only [go_sem, ↓reduceIte, Nat.reduceEqDiff, Nat.reduceAdd, Nat.reduceMul, Nat.reduceLT, Nat.reduceLeDiff, reduceCtorEq, Int.toNat_natCast]; rfl) | rfl)) (frz_tup2 (.one (frz_nil 2)) (.v _)) ⟨by unfold trimR; rw [if_pos c1]; rfl, rfl⟩
  have ht : trimR l gen = (l.filter (fun d => decide (gen < d.gen)), 0) := by unfold trimR; rw [if_neg (by simp [c1])]
  have hfil : l.filter (fun d => decide (gen < d.gen)) = l.filter (fun d => !decide (d.gen ≤ gen)) := by
    congr 1; funext d
    by_cases hh : d.gen ≤ gen
    · rw [decide_eq_true hh, decide_eq_false (by omega)]; rfl
    · rw [decide_eq_false hh, decide_eq_true (by omega)]; rfl
  rw [hfil] at ht
  refine AWP.ifF (by simp -implicitDefEqProofs only [go_sem, ↓reduceIte, Nat.reduceEqDiff, Nat.reduceAdd, Nat.reduceMul, Nat.reduceLT, Nat.reduceLeDiff, reduceCtorEq, Int.toNat_natCast, c1]) ?_; refine AWP.skip ?_; simp -implicitDefEqProofs only [go_sem, ↓reduceIte, Nat.reduceEqDiff, Nat.reduceAdd, Nat.reduceMul, Nat.reduceLT, Nat.reduceLeDiff, reduceCtorEq, Int.toNat_natCast]
  refine AWP.seqReg (by kernel_rfl) (fun E K hE hK => ?_); simp -implicitDefEqProofs only [go_sem, ↓reduceIte, Nat.reduceEqDiff, Nat.reduceAdd, Nat.reduceMul, Nat.reduceLT, Nat.reduceLeDiff, reduceCtorEq, Int.toNat_natCast]
  refine CallR.use (own_ok l hl _ _) body_65 ?_
  rintro _ _ ⟨ver, cap, T, h1, h2, h3, rfl, rfl⟩
  rw [List.length_map] at h1 h2
  simp -implicitDefEqProofs only [go_sem, ↓reduceIte, Nat.reduceEqDiff, Nat.reduceAdd, Nat.reduceMul, Nat.reduceLT, Nat.reduceLeDiff, reduceCtorEq, Int.toNat_natCast, List.length_map]
  have hcl : ∀ hh : Heap, hh b = some ⟨0, [.p (.v (.int .u64 gen))]⟩ → ViewC hh (fun i => decide (i = b)) (.clo (.func 67) [] [.ptr b 0 0]) (.clo (.func 67) [] [.ro [.v (.int .u64 gen)]]) := by
    intro hh hhb
    refine .clo rfl ?_
    intro i c d hc hd
    match i with
    | 0 =>
      simp at hc hd; subst hc; subst hd
      refine .ptr (fun _ => .p (.v (.int .u64 gen))) (by simp) hhb rfl (by simp) (fun j x hx => ?_) (fun j x hx => ?_)
      · match j with
        | 0 => rfl
        | j + 1 => simp at hx
      · match j with
        | 0 => simp at hx; subst hx; exact .p _
        | j + 1 => simp at hx
    | i + 1 => simp at hc
  have c := deleteF_ok 67 [.ro [.v (.int .u64 gen)]] (fun d => decide (d.gen ≤ gen)) l (by omega) body_67 (fun _ => rfl) (fun h b d _ => trim1_ok d gen h b)
    (delP (upd (upd h b ⟨0, [.p (.v (.int .u64 gen))]⟩) (b + 1) (rowB ver (l.map encD) T)) (fun i => decide (i = b))) (b + 2) (b + 1) ver cap T (by omega) (by unfold delP; rw [if_neg (by simp)]; exact upd_same _ _ _) h3 h1 h2
  have c' := c.seal (fun i => decide (i = b)) (.cons (.same _) (.cons (.one (hcl _ (by rw [upd_ne _ _ _ _ (by omega)]; exact upd_same _ _ _))) .nil))
  refine CallR.use c' body_66 ?_
  rintro _ _ ⟨ver', cap', T', g1, g2, g3, rfl, rfl⟩
  simp -implicitDefEqProofs only [go_sem, ↓reduceIte, Nat.reduceEqDiff, Nat.reduceAdd, Nat.reduceMul, Nat.reduceLT, Nat.reduceLeDiff, reduceCtorEq, Int.toNat_natCast, List.length_map]
  refine hK _ _ _ ?_; clear hE hK K E
  refine AWP.frz 4 (cap := cap') (len := (l.filter (fun d => !decide (d.gen ≤ gen))).length) (off := 0) (id := b + 1) 2 ((l.filter (fun d => !decide (d.gen ≤ gen))).map encD) (by (first | (simp -implicitDefEqProofs only [go_sem, ↓reduceIte, Nat.reduceEqDiff, Nat.reduceAdd, Nat.reduceMul, Nat.reduceLT, Nat.reduceLeDiff, reduceCtorEq, Int.toNat_natCast]; done) | (simp -implicitDefEqProofs only [go_sem, ↓reduceIte, Nat.reduceEqDiff, Nat.reduceAdd, Nat.reduceMul, Nat.reduceLT, Nat.reduceLeDiff, reduceCtorEq, Int.toNat_natCast]; rfl) | rfl)) (by (first | (simp -implicitDefEqProofs only [go_sem, ↓reduceIte, Nat.reduceEqDiff, Nat.reduceAdd, Nat.reduceMul, Nat.reduceLT, Nat.reduceLeDiff, reduceCtorEq, Int.toNat_natCast]; done) | (simp -implicitDefEqProofs only [go_sem, ↓reduceIte, Nat.reduceEqDiff, Nat.reduceAdd, Nat.reduceMul, Nat.reduceLT, Nat.reduceLeDiff, reduceCtorEq, Int.toNat_natCast]; rfl) | rfl)) rfl (by rw [List.length_map]) (okEs_dn _).len (row_cells (okEs_dn _) ver' _) ?_
  refine AWP.ret ?_
  simp -implicitDefEqProofs only [go_sem, ↓reduceIte, Nat.reduceEqDiff, Nat.reduceAdd, Nat.reduceMul, Nat.reduceLT, Nat.reduceLeDiff, reduceCtorEq, Int.toNat_natCast]
  exact Ends.pure hn H (fun id (hid : id < b) => by simp -implicitDefEqProofs only [go_sem, ↓reduceIte, Nat.reduceEqDiff, Nat.reduceAdd, Nat.reduceMul, Nat.reduceLT, Nat.reduceLeDiff, reduceCtorEq, Int.toNat_natCast, delH, delP, show ¬ id = b by omega, show ¬ id = b + 1 by omega, decide_false]) (r0 := .tup [DonesV (l.filter (fun d => !decide (d.gen ≤ gen))), IntV 0]) (by rw [show Tryd.f27.results.toList = [.tmp 4, .tmp 5] from rfl]; (first | (simp -implicitDefEqProofs only [go_sem, ↓reduceIte, Nat.reduceEqDiff, Nat.reduceAdd, Nat.reduceMul, Nat.reduceLT, Nat.reduceLeDiff, reduceCtorEq, Int.toNat_natCast]; done) | (simp -implicitDefEqProofs only [go_sem, ↓reduceIte, Nat.reduceEqDiff, Nat.reduceAdd, Nat.reduceMul, Nat.reduceLT, Nat.reduceLeDiff, reduceCtorEq, Int.toNat_natCast]; rfl) | rfl)) (frz_tup2 (frzV.p _) (.v _)) ⟨by rw [ht], rfl⟩
end Go.Proofs.YtengjcdilnikhaaDoor
