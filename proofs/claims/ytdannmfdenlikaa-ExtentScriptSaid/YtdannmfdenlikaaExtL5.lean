/-
  Walks of the laws on extents: ExtentScript.
-/
import Derived.Test.YtdannmfdenlikaaExtRow2
namespace Go.Proofs.Ytdannmfdenlikaa
set_option linter.unusedSimpArgs false
set_option linter.unusedVariables false
set_option linter.unnecessarySimpa false
open Go Am
set_option maxRecDepth 100000

/-- those that are out, and those that are free, are all, each once -/
def SInv (size : Int) (x : Exts) (l : List Ext) : Prop :=
  chk x = 0 ∧ x.size = size ∧ (∀ e ∈ l, fitsB size e = true) ∧ ∀ p, cnt x.free p + cnt l p = if 0 ≤ p ∧ p < size then 1 else 0

theorem newX_ok {size : Int} (h0 : 0 ≤ size) (h1 : size ≤ 60) : (newX size).2 = 0 ∧ SInv size (newX size).1 [] ∧ (newX size).1.free.length ≤ 1 := by
  unfold newX
  rw [if_neg (by omega)]
  by_cases h : 0 < size
  · rw [if_pos h]
    refine ⟨rfl, ⟨chk_iff.2 ⟨h0, by simp only; omega, ⟨by simp only; omega, by simp only; omega, trivial⟩, by simp⟩, rfl, by simp, fun p => ?_⟩, by simp⟩
    simp only [cnt_cons, cnt_nil]
    unfold ind
    simp only
    split <;> split <;> omega
  · rw [if_neg h]
    refine ⟨rfl, ⟨chk_iff.2 ⟨h0, by simp only; omega, trivial, by simp⟩, rfl, by simp, fun p => ?_⟩, by simp⟩
    rw [if_neg (by omega)]
    rfl

theorem SInv.take {size : Int} {x : Exts} {l : List Ext} {n : Int} (h : SInv size x l) (hn1 : 1 ≤ n) (hn : n ≤ 9223372036854775807) :
    ((takeX x n).2.2 = 6 ∨ (takeX x n).2.2 = 0) ∧ ((takeX x n).2.2 = 0 → SInv size (takeX x n).2.1 (l ++ [(takeX x n).1])) := by
  obtain ⟨h1, h2, h3, h4⟩ := h
  obtain ⟨g0, g1, _⟩ := chk_iff.1 h1
  rcases take_law h1 hn1 hn with ⟨e1, _⟩ | ⟨s, y, e1, ht⟩
  · rw [e1]; exact ⟨.inl rfl, fun h => absurd h (by decide)⟩
  · rw [e1]
    refine ⟨.inr rfl, fun _ => ⟨ht.chk, by rw [ht.size, h2], fun e he => ?_, fun p => ?_⟩⟩
    · rcases List.mem_append.1 he with he | he
      · exact h3 e he
      · rw [List.mem_singleton.1 he]
        exact (fits_iff (by omega) (by omega)).2 ⟨ht.at0, by show 1 ≤ s.len; rw [ht.len]; exact hn1, by show s.at_ + s.len ≤ size; rw [ht.len, ← h2]; exact ht.end_⟩
    · rw [← h4 p]
      have := ht.cnt p
      rw [cnt_app, cnt_cons, cnt_nil]
      show cnt y.free p + (cnt l p + (ind s p + 0)) = cnt x.free p + cnt l p
      omega

theorem SInv.give {size : Int} {x : Exts} {l : List Ext} {i : Nat} (h : SInv size x l) (hi : i < l.length) : (giveX x l[i]).2 = 0 ∧ SInv size (giveX x l[i]).1 (l.take i ++ l.drop (i + 1)) := by
  obtain ⟨h2, h3, h4, h5⟩ := h
  have hmem := List.getElem_mem hi
  have hsp : l = l.take i ++ l[i] :: l.drop (i + 1) := by
    rw [← List.drop_eq_getElem_cons hi, List.take_append_drop]
  have hcl : ∀ p, cnt l p = cnt (l.take i ++ l.drop (i + 1)) p + ind l[i] p := by
    intro p
    conv => lhs; rw [hsp]
    simp only [cnt_app, cnt_cons]
    omega
  have hno : inNone x l[i] := fun p hp => by
    have h6 := h5 p
    have := hcl p
    split at h6 <;> omega
  rcases give_iff h2 (by rw [h3]; exact h4 _ hmem) with ⟨_, z, e1, g1⟩ | ⟨n1, _⟩
  · rw [e1]
    refine ⟨rfl, g1.chk, by rw [g1.size, h3], fun e he => h4 e ?_, fun p => ?_⟩
    · rcases List.mem_append.1 he with he | he
      · exact List.mem_of_mem_take he
      · exact List.mem_of_mem_drop he
    · rw [← h5 p]
      have := g1.cnt p
      have := hcl p
      show cnt z.free p + _ = _
      omega
  · exact absurd hno n1

/-- each of them lies within -/
theorem SInv.within {size : Int} {x : Exts} {l : List Ext} (h : SInv size x l) : ∀ e ∈ l ++ x.free, 0 ≤ e.at_ ∧ 1 ≤ e.len ∧ e.at_ + e.len ≤ size := by
  obtain ⟨h1, h2, h3, h4⟩ := h
  obtain ⟨g0, g1, gs, gv⟩ := chk_iff.1 h1
  intro e he
  rcases List.mem_append.1 he with he | he
  · exact (fits_iff (by omega) (by omega)).1 (h3 e he)
  · have a1 := gs.mem e he
    have a2 := gv e he
    omega

theorem SInv.once {size : Int} {x : Exts} {l : List Ext} (h : SInv size x l) {p : Int} (h0 : 0 ≤ p) (h1 : p < size) : cnt (l ++ x.free) p = 1 := by
  have := h.2.2.2 p
  rw [if_pos ⟨h0, h1⟩] at this
  rw [cnt_app]
  omega

/-- at the head of the script's loop -/
def scriptI (size : Int) (ns : List Int) (h : Heap) (b i : Nat) (st : St) : Prop :=
  ∃ (ver cap : Nat) (T : List Cell) (l : List Ext) (x : Exts), l.length ≤ cap ∧ cap * 2 = l.length * 2 + T.length ∧ lowCs 0 T = true ∧ l.length ≤ i ∧ x.free.length ≤ 1 + i ∧ SInv size x l ∧
    st.h b = some ⟨0, encX x⟩ ∧ st.h (b + 1) = some (rowB ver (l.map encE) T) ∧ (∀ id, id < b → st.h id = h id) ∧
    st.t 0 = IntV size ∧ st.t 5 = BoolV true ∧ st.t 6 = .one (.ptr b 0 0) ∧ st.t 8 = .one (.win (b + 1) ver 0 l.length cap) ∧ st.t 44 = .one (.p (.sl 1 (ns.map encI16))) ∧ st.t 45 = IntV ns.length ∧ st.t 46 = IntV i

/-- .. with what is done in the round behind it -/
def scriptJ (size : Int) (ns : List Int) (h : Heap) (b i : Nat) (k : Int) (st : St) : Prop :=
  ∃ (ver cap : Nat) (T : List Cell) (l : List Ext) (x : Exts), l.length ≤ cap ∧ cap * 2 = l.length * 2 + T.length ∧ lowCs 0 T = true ∧ l.length ≤ i + 1 ∧ x.free.length ≤ 2 + i ∧ SInv size x l ∧ (0 < k → l.length ≤ i ∧ x.free.length ≤ 1 + i) ∧
    st.h b = some ⟨0, encX x⟩ ∧ st.h (b + 1) = some (rowB ver (l.map encE) T) ∧ (∀ id, id < b → st.h id = h id) ∧
    st.t 0 = IntV size ∧ st.t 5 = BoolV true ∧ st.t 6 = .one (.ptr b 0 0) ∧ st.t 8 = .one (.win (b + 1) ver 0 l.length cap) ∧ st.t 10 = .one (.p (.v (.int .i16 k))) ∧ st.t 44 = .one (.p (.sl 1 (ns.map encI16))) ∧ st.t 45 = IntV ns.length ∧ st.t 46 = IntV i

/-- .. with all that is done in the round -/
def scriptL (size : Int) (ns : List Int) (h : Heap) (b i : Nat) (st : St) : Prop :=
  ∃ (ver cap : Nat) (T : List Cell) (l : List Ext) (x : Exts), l.length ≤ cap ∧ cap * 2 = l.length * 2 + T.length ∧ lowCs 0 T = true ∧ l.length ≤ i + 1 ∧ x.free.length ≤ 2 + i ∧ SInv size x l ∧
    st.h b = some ⟨0, encX x⟩ ∧ st.h (b + 1) = some (rowB ver (l.map encE) T) ∧ (∀ id, id < b → st.h id = h id) ∧
    st.t 0 = IntV size ∧ st.t 5 = BoolV true ∧ st.t 6 = .one (.ptr b 0 0) ∧ st.t 8 = .one (.win (b + 1) ver 0 l.length cap) ∧ st.t 44 = .one (.p (.sl 1 (ns.map encI16))) ∧ st.t 45 = IntV ns.length ∧ st.t 46 = IntV i

def encI (k : Int) : List PD := [.v (.int .i64 k)]

def owF (f : Int → Nat) (sz : Nat) : List Int := (List.range sz).map fun (p : Nat) => ((f (p : Int) : Nat) : Int)
theorem owF_len (f : Int → Nat) (sz : Nat) : (owF f sz).length = sz := by simp [owF]
theorem owF_get (f : Int → Nat) {sz p : Nat} (h : p < sz) : (owF f sz)[p]? = some ((f p : Nat) : Int) := by simp [owF, h]
theorem owF_zero (sz : Nat) : List.replicate sz (0 : Int) = owF (fun _ => 0) sz := by
  unfold owF
  apply List.ext_getElem <;> simp
theorem owF_set {f g : Int → Nat} {sz k : Nat} {v : Int} (hv : ((g k : Nat) : Int) = v) (h : ∀ p : Nat, p ≠ k → g p = f p) : (owF f sz).set k v = owF g sz := by
  apply List.ext_getElem?
  intro p
  by_cases hp : p < sz
  · rw [owF_get g hp, List.getElem?_set]
    by_cases hk : k = p
    · subst hk; rw [if_pos rfl, if_pos (by rw [owF_len]; exact hp), hv]
    · rw [if_neg hk, owF_get f hp, h p (fun hh => hk hh.symm)]
  · rw [List.getElem?_eq_none (by rw [List.length_set, owF_len]; omega), List.getElem?_eq_none (by rw [owF_len]; omega)]
theorem owF_congr {f g : Int → Nat} {sz : Nat} (h : ∀ p : Nat, p < sz → f p = g p) : owF f sz = owF g sz := by
  apply List.ext_getElem?
  intro p
  by_cases hp : p < sz
  · rw [owF_get f hp, owF_get g hp, h p hp]
  · rw [List.getElem?_eq_none (by rw [owF_len]; omega), List.getElem?_eq_none (by rw [owF_len]; omega)]

def cellsI (l : List Int) : List Cell := l.map fun v => .p (.v (.int .i64 v))
theorem cellsI_len (l : List Int) : (cellsI l).length = l.length := by simp [cellsI]
theorem cellsI_get (l : List Int) (k : Nat) : (cellsI l)[k]? = (l[k]?).map fun v => Cell.p (.v (.int .i64 v)) := by simp [cellsI]
theorem cellsI_set (l : List Int) (k : Nat) (v : Int) (h : k < l.length) : List.take k (cellsI l) ++ .p (.v (.int .i64 v)) :: List.drop (k + 1) (cellsI l) = cellsI (l.set k v) := by
  unfold cellsI
  rw [List.map_set, List.set_eq_take_append_cons_drop, if_pos (by simpa using h)]
theorem cellsI_low (b : Nat) (l : List Int) : lowCs b (cellsI l) = true := lowCs_of fun c hc => by
  obtain ⟨v, _, rfl⟩ := List.mem_map.1 hc
  rfl
theorem cellsI_repl (n : Nat) : repl [Cell.p (.v (.int .i64 0))] n = cellsI (List.replicate n 0) := by
  induction n with
  | zero => rfl
  | succ n ih => show _ :: _ = _; rw [List.replicate_succ]; unfold cellsI at ih ⊢; rw [List.map_cons]; exact congrArg _ ih

theorem cnt_len (l : List Ext) (p : Int) : cnt l p ≤ l.length := by
  induction l with
  | nil => exact Nat.le_refl _
  | cons e l ih => rw [cnt_cons, List.length_cons]; have := ind_le e p; omega

/-- what the round keeps while it counts -/
def scB (size : Int) (ns : List Int) (h : Heap) (b i : Nat) (x : Exts) (l : List Ext) (ver cap : Nat) (T : List Cell) (st : St) : Prop :=
  st.h b = some ⟨0, encX x⟩ ∧ st.h (b + 1) = some (rowB ver (l.map encE) T) ∧ (∀ id, id < b → st.h id = h id) ∧
    st.t 0 = IntV size ∧ st.t 5 = BoolV true ∧ st.t 6 = .one (.ptr b 0 0) ∧ st.t 8 = .one (.win (b + 1) ver 0 l.length cap) ∧ st.t 44 = .one (.p (.sl 1 (ns.map encI16))) ∧ st.t 45 = IntV ns.length ∧ st.t 46 = IntV i

/-- q of them are counted -/
def scO (size : Int) (ns : List Int) (h : Heap) (b i : Nat) (x : Exts) (l : List Ext) (ver cap : Nat) (T : List Cell) (sz : Nat) (all : List Ext) (q : Nat) (st : St) : Prop :=
  scB size ns h b i x l ver cap T st ∧ st.h (b + 2) = some (⟨0, cellsI (owF (fun p => cnt (all.take q) p) sz)⟩) ∧ st.t 17 = .one (.win (b + 2) 0 0 sz sz) ∧ st.t 113 = .one (.p (.sl 2 (all.map encE))) ∧ st.t 114 = IntV all.length ∧ st.t 115 = IntV q

/-- .. and j of the next one's sectors -/
def scP (size : Int) (ns : List Int) (h : Heap) (b i : Nat) (x : Exts) (l : List Ext) (ver cap : Nat) (T : List Cell) (sz : Nat) (all : List Ext) (q : Nat) (s : Ext) (j : Nat) (st : St) : Prop :=
  scB size ns h b i x l ver cap T st ∧ st.h (b + 2) = some (⟨0, cellsI (owF (fun p => cnt (all.take q) p + (if s.at_ ≤ p ∧ p < s.at_ + j then 1 else 0)) sz)⟩) ∧ st.h (b + 4) = some ⟨0, (encE s).map .p⟩ ∧ st.t 17 = .one (.win (b + 2) 0 0 sz sz) ∧ st.t 19 = .one (.ptr (b + 4) 0 0) ∧
    st.t 113 = .one (.p (.sl 2 (all.map encE))) ∧ st.t 114 = IntV all.length ∧ st.t 115 = IntV q ∧ st.t 120 = IntV s.len ∧ st.t 121 = IntV j

theorem script_ok (size : Int) (ns : List Int) (h : Heap) (b : Nat) (hs64 : -9223372036854775808 ≤ size) (hns : ∀ k ∈ ns, -32768 ≤ k ∧ k ≤ 32767) :
    ACalls Try.prog 3 [IntV size, .one (.p (.sl 1 (ns.map encI16)))] h b 0 (fun r h' => r = BoolV true ∧ h' = h) := by
  refine ACalls.enter Try.func3 rfl (by simp [Try.ntmps3]) (fun ι w hn H => ?_)
  have hlow := H.lowCells
  have fin : ∀ (t : Nat → AV) (hh : Heap) (m : Nat), t 4 = BoolV true → (∀ id, id < b → hh id = h id) → Am.Ends Try.prog ⟨Try.f3.ntmps, b, ι, h, w⟩ Try.f3 0 (fun r h' => r = BoolV true ∧ h' = h) ⟨t, hh, m⟩ := by
    intro t hh m ht ho
    exact Ends.pure hn H ho (r0 := BoolV true) (by rw [show Try.f3.results.toList = [.tmp 4] from rfl]; simp -implicitDefEqProofs only [go_sem, ↓reduceIte, Nat.reduceEqDiff, Nat.reduceAdd, Nat.reduceMul, Nat.reduceLT, Nat.reduceLeDiff, reduceCtorEq, Int.toNat_natCast, ht]) (.v _) ⟨rfl, rfl⟩
  refine AWP.seqReg (by kernel_rfl) (fun E K hE hK => ?_); simp -implicitDefEqProofs only [go_sem, ↓reduceIte, Nat.reduceEqDiff, Nat.reduceAdd, Nat.reduceMul, Nat.reduceLT, Nat.reduceLeDiff, reduceCtorEq, Int.toNat_natCast]; refine hK _ _ _ ?_; clear hE hK K E
  refine AWP.seqReg (by kernel_rfl) (fun E K hE hK => ?_); simp -implicitDefEqProofs only [go_sem, ↓reduceIte, Nat.reduceEqDiff, Nat.reduceAdd, Nat.reduceMul, Nat.reduceLT, Nat.reduceLeDiff, reduceCtorEq, Int.toNat_natCast]
  refine CallR.use (live_ok _ _) body_9 ?_; rintro _ h_ ⟨rfl, e_⟩; rw [e_]; clear e_ h_; simp -implicitDefEqProofs only [go_sem, ↓reduceIte, Nat.reduceEqDiff, Nat.reduceAdd, Nat.reduceMul, Nat.reduceLT, Nat.reduceLeDiff, reduceCtorEq, Int.toNat_natCast]
  refine hK _ _ _ ?_; clear hE hK K E
  refine AWP.mid (fun st => st.n = 0 ∧ st.h = h ∧ st.t 0 = IntV size ∧ st.t 1 = .one (.p (.sl 1 (ns.map encI16))) ∧ st.t 5 = BoolV true ∧ size ≤ 60 ∧ ns.length ≤ 60) ?_ ?_
  · refine AWP.seqReg (by kernel_rfl) (fun E K hE hK => ?_); simp -implicitDefEqProofs only [go_sem, ↓reduceIte, Nat.reduceEqDiff, Nat.reduceAdd, Nat.reduceMul, Nat.reduceLT, Nat.reduceLeDiff, reduceCtorEq, Int.toNat_natCast, List.length_map]
    refine ⟨fun g => ?_, fun g => ?_⟩
    · refine hK _ _ _ ?_; clear hE hK K E
      refine AWP.ifT (by simp -implicitDefEqProofs only [go_sem, ↓reduceIte, Nat.reduceEqDiff, Nat.reduceAdd, Nat.reduceMul, Nat.reduceLT, Nat.reduceLeDiff, reduceCtorEq, Int.toNat_natCast]) ?_
      refine AWP.seqReg (by kernel_rfl) (fun E K hE hK => ?_); simp -implicitDefEqProofs only [go_sem, ↓reduceIte, Nat.reduceEqDiff, Nat.reduceAdd, Nat.reduceMul, Nat.reduceLT, Nat.reduceLeDiff, reduceCtorEq, Int.toNat_natCast]; refine hK _ _ _ ?_; clear hE hK K E
      refine AWP.ret ?_
      simp -implicitDefEqProofs only [go_sem, ↓reduceIte, Nat.reduceEqDiff, Nat.reduceAdd, Nat.reduceMul, Nat.reduceLT, Nat.reduceLeDiff, reduceCtorEq, Int.toNat_natCast]
      exact fin _ _ _ (by simp -implicitDefEqProofs only [go_sem, ↓reduceIte, Nat.reduceEqDiff, Nat.reduceAdd, Nat.reduceMul, Nat.reduceLT, Nat.reduceLeDiff, reduceCtorEq, Int.toNat_natCast]) (fun _ _ => rfl)
    · refine hK _ _ _ ?_; clear hE hK K E
      by_cases hl : 60 < ns.length
      · refine AWP.ifT (by simp -implicitDefEqProofs only [go_sem, ↓reduceIte, Nat.reduceEqDiff, Nat.reduceAdd, Nat.reduceMul, Nat.reduceLT, Nat.reduceLeDiff, reduceCtorEq, Int.toNat_natCast, show (60 : Int) < (ns.length : Int) by omega]) ?_
        refine AWP.seqReg (by kernel_rfl) (fun E K hE hK => ?_); simp -implicitDefEqProofs only [go_sem, ↓reduceIte, Nat.reduceEqDiff, Nat.reduceAdd, Nat.reduceMul, Nat.reduceLT, Nat.reduceLeDiff, reduceCtorEq, Int.toNat_natCast]; refine hK _ _ _ ?_; clear hE hK K E
        refine AWP.ret ?_
        simp -implicitDefEqProofs only [go_sem, ↓reduceIte, Nat.reduceEqDiff, Nat.reduceAdd, Nat.reduceMul, Nat.reduceLT, Nat.reduceLeDiff, reduceCtorEq, Int.toNat_natCast]
        exact fin _ _ _ (by simp -implicitDefEqProofs only [go_sem, ↓reduceIte, Nat.reduceEqDiff, Nat.reduceAdd, Nat.reduceMul, Nat.reduceLT, Nat.reduceLeDiff, reduceCtorEq, Int.toNat_natCast]) (fun _ _ => rfl)
      · refine AWP.ifF (by simp -implicitDefEqProofs only [go_sem, ↓reduceIte, Nat.reduceEqDiff, Nat.reduceAdd, Nat.reduceMul, Nat.reduceLT, Nat.reduceLeDiff, reduceCtorEq, Int.toNat_natCast, show ¬ (60 : Int) < (ns.length : Int) by omega]) ?_
        refine AWP.skip ?_
        have g' : size ≤ 60 := by simpa using g
        exact ⟨rfl, rfl, by simp -implicitDefEqProofs only [go_sem, ↓reduceIte, Nat.reduceEqDiff, Nat.reduceAdd, Nat.reduceMul, Nat.reduceLT, Nat.reduceLeDiff, reduceCtorEq, Int.toNat_natCast], by simp -implicitDefEqProofs only [go_sem, ↓reduceIte, Nat.reduceEqDiff, Nat.reduceAdd, Nat.reduceMul, Nat.reduceLT, Nat.reduceLeDiff, reduceCtorEq, Int.toNat_natCast], by simp -implicitDefEqProofs only [go_sem, ↓reduceIte, Nat.reduceEqDiff, Nat.reduceAdd, Nat.reduceMul, Nat.reduceLT, Nat.reduceLeDiff, reduceCtorEq, Int.toNat_natCast], g', by omega⟩
  rintro ⟨t, hh, m⟩ ⟨hm, eh, e0, e1, e5, hs60, hnl⟩
  simp only at hm eh e0 e1 e5
  subst hm
  subst eh
  refine AWP.seqReg (by kernel_rfl) (fun E K hE hK => ?_); simp -implicitDefEqProofs only [go_sem, ↓reduceIte, Nat.reduceEqDiff, Nat.reduceAdd, Nat.reduceMul, Nat.reduceLT, Nat.reduceLeDiff, reduceCtorEq, Int.toNat_natCast, e0]
  refine CallR.use (new_ok size _ _) body_10 ?_; rintro _ h_ ⟨rfl, e_⟩; rw [e_]; clear e_ h_; simp -implicitDefEqProofs only [go_sem, ↓reduceIte, Nat.reduceEqDiff, Nat.reduceAdd, Nat.reduceMul, Nat.reduceLT, Nat.reduceLeDiff, reduceCtorEq, Int.toNat_natCast]
  by_cases hs0 : size < 0
  · rw [show newX size = (⟨0, []⟩, 1) by unfold newX; rw [if_pos (.inl hs0)]]
    simp -implicitDefEqProofs only [go_sem, ↓reduceIte, Nat.reduceEqDiff, Nat.reduceAdd, Nat.reduceMul, Nat.reduceLT, Nat.reduceLeDiff, reduceCtorEq, Int.toNat_natCast, ExtsErr, ExtsV]
    refine hK _ _ _ ?_; clear hE hK K E
    refine AWP.seq ?_
    refine AWP.seqReg (by kernel_rfl) (fun E K hE hK => ?_); simp -implicitDefEqProofs only [go_sem, ↓reduceIte, Nat.reduceEqDiff, Nat.reduceAdd, Nat.reduceMul, Nat.reduceLT, Nat.reduceLeDiff, reduceCtorEq, Int.toNat_natCast]; refine hK _ _ _ ?_; clear hE hK K E
    refine AWP.ifT (by simp -implicitDefEqProofs only [go_sem, ↓reduceIte, Nat.reduceEqDiff, Nat.reduceAdd, Nat.reduceMul, Nat.reduceLT, Nat.reduceLeDiff, reduceCtorEq, Int.toNat_natCast, decide_false, Int.reduceEq, Bool.not_false]) ?_
    refine AWP.seqReg (by kernel_rfl) (fun E K hE hK => ?_); simp -implicitDefEqProofs only [go_sem, ↓reduceIte, Nat.reduceEqDiff, Nat.reduceAdd, Nat.reduceMul, Nat.reduceLT, Nat.reduceLeDiff, reduceCtorEq, Int.toNat_natCast, e0, e5, hs0, decide_true]; refine hK _ _ _ ?_; clear hE hK K E
    refine AWP.ret ?_
    simp -implicitDefEqProofs only [go_sem, ↓reduceIte, Nat.reduceEqDiff, Nat.reduceAdd, Nat.reduceMul, Nat.reduceLT, Nat.reduceLeDiff, reduceCtorEq, Int.toNat_natCast]
    exact fin _ _ _ (by simp -implicitDefEqProofs only [go_sem, ↓reduceIte, Nat.reduceEqDiff, Nat.reduceAdd, Nat.reduceMul, Nat.reduceLT, Nat.reduceLeDiff, reduceCtorEq, Int.toNat_natCast]) ((fun id (hid : id < b) => by simp -implicitDefEqProofs only [go_sem, ↓reduceIte, Nat.reduceEqDiff, Nat.reduceAdd, Nat.reduceMul, Nat.reduceLT, Nat.reduceLeDiff, reduceCtorEq, Int.toNat_natCast, show ¬ id = b by omega]))
  obtain ⟨hx0, hS, hfl⟩ := newX_ok (by omega) hs60
  generalize newX size = X at hx0 hS hfl
  obtain ⟨x, e⟩ := X
  simp only at hx0 hS hfl
  subst hx0
  simp -implicitDefEqProofs only [go_sem, ↓reduceIte, Nat.reduceEqDiff, Nat.reduceAdd, Nat.reduceMul, Nat.reduceLT, Nat.reduceLeDiff, reduceCtorEq, Int.toNat_natCast, ExtsErr, ExtsV]
  refine hK _ _ _ ?_; clear hE hK K E
  refine AWP.seq ?_
  refine AWP.seqReg (by kernel_rfl) (fun E K hE hK => ?_); simp -implicitDefEqProofs only [go_sem, ↓reduceIte, Nat.reduceEqDiff, Nat.reduceAdd, Nat.reduceMul, Nat.reduceLT, Nat.reduceLeDiff, reduceCtorEq, Int.toNat_natCast, decide_true, Bool.not_true]; refine hK _ _ _ ?_; clear hE hK K E
  refine AWP.ifF (by simp -implicitDefEqProofs only [go_sem, ↓reduceIte, Nat.reduceEqDiff, Nat.reduceAdd, Nat.reduceMul, Nat.reduceLT, Nat.reduceLeDiff, reduceCtorEq, Int.toNat_natCast]) ?_; refine AWP.skip ?_; simp -implicitDefEqProofs only [go_sem, ↓reduceIte, Nat.reduceEqDiff, Nat.reduceAdd, Nat.reduceMul, Nat.reduceLT, Nat.reduceLeDiff, reduceCtorEq, Int.toNat_natCast]
  refine AWP.seqReg (by kernel_rfl) (fun E K hE hK => ?_); simp -implicitDefEqProofs only [go_sem, ↓reduceIte, Nat.reduceEqDiff, Nat.reduceAdd, Nat.reduceMul, Nat.reduceLT, Nat.reduceLeDiff, reduceCtorEq, Int.toNat_natCast]; refine hK _ _ _ ?_; clear hE hK K E
  refine AWP.virt 8 (by simp -implicitDefEqProofs only [go_sem, ↓reduceIte, Nat.reduceEqDiff, Nat.reduceAdd, Nat.reduceMul, Nat.reduceLT, Nat.reduceLeDiff, reduceCtorEq, Int.toNat_natCast]) ?_
  refine AWP.mid (fun st => (∀ id, id < b → st.h id = hh id) ∧ st.t 5 = BoolV true) ?_ ?_
  rotate_left
  · rintro ⟨t, h2, m⟩ ⟨ho, e5⟩
    simp only at ho e5
    refine AWP.seqReg (by kernel_rfl) (fun E K hE hK => ?_); simp -implicitDefEqProofs only [go_sem, ↓reduceIte, Nat.reduceEqDiff, Nat.reduceAdd, Nat.reduceMul, Nat.reduceLT, Nat.reduceLeDiff, reduceCtorEq, Int.toNat_natCast, e5]; refine hK _ _ _ ?_; clear hE hK K E
    refine AWP.ret ?_
    simp -implicitDefEqProofs only [go_sem, ↓reduceIte, Nat.reduceEqDiff, Nat.reduceAdd, Nat.reduceMul, Nat.reduceLT, Nat.reduceLeDiff, reduceCtorEq, Int.toNat_natCast]
    exact fin _ _ _ (by simp -implicitDefEqProofs only [go_sem, ↓reduceIte, Nat.reduceEqDiff, Nat.reduceAdd, Nat.reduceMul, Nat.reduceLT, Nat.reduceLeDiff, reduceCtorEq, Int.toNat_natCast]) ho
  refine AWP.seqReg (by kernel_rfl) (fun E K hE hK => ?_); simp -implicitDefEqProofs only [go_sem, ↓reduceIte, Nat.reduceEqDiff, Nat.reduceAdd, Nat.reduceMul, Nat.reduceLT, Nat.reduceLeDiff, reduceCtorEq, Int.toNat_natCast, e1, List.length_map]; refine hK _ _ _ ?_; clear hE hK K E
  refine AWP.block ?_
  refine AWP.loopUp 2 ns.length (scriptI size ns hh b) 0 (Nat.zero_le _) rfl ⟨0, 0, [], [], x, Nat.le_refl _, rfl, rfl, Nat.le_refl _, hfl, hS, by (first | (simp -implicitDefEqProofs only [go_sem, ↓reduceIte, Nat.reduceEqDiff, Nat.reduceAdd, Nat.reduceMul, Nat.reduceLT, Nat.reduceLeDiff, reduceCtorEq, Int.toNat_natCast]; done) | (simp -implicitDefEqProofs only [go_sem, ↓reduceIte, Nat.reduceEqDiff, Nat.reduceAdd, Nat.reduceMul, Nat.reduceLT, Nat.reduceLeDiff, reduceCtorEq, Int.toNat_natCast]; rfl) | rfl), by (first | (simp -implicitDefEqProofs only [go_sem, ↓reduceIte, Nat.reduceEqDiff, Nat.reduceAdd, Nat.reduceMul, Nat.reduceLT, Nat.reduceLeDiff, reduceCtorEq, Int.toNat_natCast]; done) | (simp -implicitDefEqProofs only [go_sem, ↓reduceIte, Nat.reduceEqDiff, Nat.reduceAdd, Nat.reduceMul, Nat.reduceLT, Nat.reduceLeDiff, reduceCtorEq, Int.toNat_natCast]; rfl) | rfl), (fun id (hid : id < b) => by simp -implicitDefEqProofs only [go_sem, ↓reduceIte, Nat.reduceEqDiff, Nat.reduceAdd, Nat.reduceMul, Nat.reduceLT, Nat.reduceLeDiff, reduceCtorEq, Int.toNat_natCast, show ¬ id = b by omega, show ¬ id = b + 1 by omega]), by (first | (simp -implicitDefEqProofs only [go_sem, ↓reduceIte, Nat.reduceEqDiff, Nat.reduceAdd, Nat.reduceMul, Nat.reduceLT, Nat.reduceLeDiff, reduceCtorEq, Int.toNat_natCast, e0]; done) | (simp -implicitDefEqProofs only [go_sem, ↓reduceIte, Nat.reduceEqDiff, Nat.reduceAdd, Nat.reduceMul, Nat.reduceLT, Nat.reduceLeDiff, reduceCtorEq, Int.toNat_natCast, e0]; rfl) | rfl), by (first | (simp -implicitDefEqProofs only [go_sem, ↓reduceIte, Nat.reduceEqDiff, Nat.reduceAdd, Nat.reduceMul, Nat.reduceLT, Nat.reduceLeDiff, reduceCtorEq, Int.toNat_natCast, e5]; done) | (simp -implicitDefEqProofs only [go_sem, ↓reduceIte, Nat.reduceEqDiff, Nat.reduceAdd, Nat.reduceMul, Nat.reduceLT, Nat.reduceLeDiff, reduceCtorEq, Int.toNat_natCast, e5]; rfl) | rfl), by (first | (simp -implicitDefEqProofs only [go_sem, ↓reduceIte, Nat.reduceEqDiff, Nat.reduceAdd, Nat.reduceMul, Nat.reduceLT, Nat.reduceLeDiff, reduceCtorEq, Int.toNat_natCast]; done) | (simp -implicitDefEqProofs only [go_sem, ↓reduceIte, Nat.reduceEqDiff, Nat.reduceAdd, Nat.reduceMul, Nat.reduceLT, Nat.reduceLeDiff, reduceCtorEq, Int.toNat_natCast]; rfl) | rfl), by (first | (simp -implicitDefEqProofs only [go_sem, ↓reduceIte, Nat.reduceEqDiff, Nat.reduceAdd, Nat.reduceMul, Nat.reduceLT, Nat.reduceLeDiff, reduceCtorEq, Int.toNat_natCast]; done) | (simp -implicitDefEqProofs only [go_sem, ↓reduceIte, Nat.reduceEqDiff, Nat.reduceAdd, Nat.reduceMul, Nat.reduceLT, Nat.reduceLeDiff, reduceCtorEq, Int.toNat_natCast]; rfl) | rfl), by (first | (simp -implicitDefEqProofs only [go_sem, ↓reduceIte, Nat.reduceEqDiff, Nat.reduceAdd, Nat.reduceMul, Nat.reduceLT, Nat.reduceLeDiff, reduceCtorEq, Int.toNat_natCast]; done) | (simp -implicitDefEqProofs only [go_sem, ↓reduceIte, Nat.reduceEqDiff, Nat.reduceAdd, Nat.reduceMul, Nat.reduceLT, Nat.reduceLeDiff, reduceCtorEq, Int.toNat_natCast]; rfl) | rfl), by (first | (simp -implicitDefEqProofs only [go_sem, ↓reduceIte, Nat.reduceEqDiff, Nat.reduceAdd, Nat.reduceMul, Nat.reduceLT, Nat.reduceLeDiff, reduceCtorEq, Int.toNat_natCast]; done) | (simp -implicitDefEqProofs only [go_sem, ↓reduceIte, Nat.reduceEqDiff, Nat.reduceAdd, Nat.reduceMul, Nat.reduceLT, Nat.reduceLeDiff, reduceCtorEq, Int.toNat_natCast]; rfl) | rfl), by (first | (simp -implicitDefEqProofs only [go_sem, ↓reduceIte, Nat.reduceEqDiff, Nat.reduceAdd, Nat.reduceMul, Nat.reduceLT, Nat.reduceLeDiff, reduceCtorEq, Int.toNat_natCast]; done) | (simp -implicitDefEqProofs only [go_sem, ↓reduceIte, Nat.reduceEqDiff, Nat.reduceAdd, Nat.reduceMul, Nat.reduceLT, Nat.reduceLeDiff, reduceCtorEq, Int.toNat_natCast]; rfl) | rfl)⟩ ?_
  clear e0 e1 e5 hS hfl x t
  rintro i ⟨t, h2, m⟩ hi ⟨ver, cap, T, l, x, q1, q2, q3, q4, q5, hS, hb, hb1, ho, e0, e5, e6, e8, e44, e45, e46⟩ hm
  simp only at hb hb1 ho e0 e5 e6 e8 e44 e45 e46 hm
  subst hm
  refine AWP.seqReg (by kernel_rfl) (fun E K hE hK => ?_); simp -implicitDefEqProofs only [go_sem, ↓reduceIte, Nat.reduceEqDiff, Nat.reduceAdd, Nat.reduceMul, Nat.reduceLT, Nat.reduceLeDiff, reduceCtorEq, Int.toNat_natCast, e45, e46]; refine hK _ _ _ ?_; clear hE hK K E
  by_cases hlt : (i : Int) < ns.length
  case neg =>
    refine AWP.seq ?_
    refine AWP.ifF (by simp -implicitDefEqProofs only [go_sem, ↓reduceIte, Nat.reduceEqDiff, Nat.reduceAdd, Nat.reduceMul, Nat.reduceLT, Nat.reduceLeDiff, reduceCtorEq, Int.toNat_natCast, hlt]) ?_
    refine AWP.exit ?_
    simp -implicitDefEqProofs only [go_sem, ↓reduceIte, Nat.reduceEqDiff, Nat.reduceAdd, Nat.reduceMul, Nat.reduceLT, Nat.reduceLeDiff, reduceCtorEq, Int.toNat_natCast]
    exact ⟨ho, by simp -implicitDefEqProofs only [go_sem, ↓reduceIte, Nat.reduceEqDiff, Nat.reduceAdd, Nat.reduceMul, Nat.reduceLT, Nat.reduceLeDiff, reduceCtorEq, Int.toNat_natCast, e5]⟩
  have hi2 : i < ns.length := by omega
  have hge : (ns.map encI16).getD i [] = encI16 ns[i] := getD_map encI16 ns i hi2
  have hk := hns ns[i] (List.getElem_mem hi2)
  generalize ns[i] = k at hge hk
  refine AWP.seq ?_
  refine AWP.ifT (by simp -implicitDefEqProofs only [go_sem, ↓reduceIte, Nat.reduceEqDiff, Nat.reduceAdd, Nat.reduceMul, Nat.reduceLT, Nat.reduceLeDiff, reduceCtorEq, Int.toNat_natCast, hlt]) ?_
  refine AWP.skip ?_
  simp -implicitDefEqProofs only [go_sem, ↓reduceIte, Nat.reduceEqDiff, Nat.reduceAdd, Nat.reduceMul, Nat.reduceLT, Nat.reduceLeDiff, reduceCtorEq, Int.toNat_natCast]
  refine AWP.seq ?_
  refine AWP.block ?_
  refine AWP.seqReg (by kernel_rfl) (fun E K hE hK => ?_); simp -implicitDefEqProofs only [go_sem, ↓reduceIte, Nat.reduceEqDiff, Nat.reduceAdd, Nat.reduceMul, Nat.reduceLT, Nat.reduceLeDiff, reduceCtorEq, Int.toNat_natCast, e44, e46, hge, encI16, List.length_map]
  refine ⟨⟨by omega, by omega⟩, ?_⟩
  refine hK _ _ _ ?_; clear hE hK K E
  refine AWP.midR (fun st => (2 ≤ st.n ∧ scriptJ size ns hh b i k (st.cut ⟨Try.f3.ntmps, b, ι, hh, w⟩ 2)) ∨
      (∃ (ver cap : Nat) (bk : Blk) (T : List Cell) (l : List Ext) (x : Exts), l.length ≤ cap ∧ cap * 2 = l.length * 2 + T.length ∧ lowCs 0 T = true ∧ l.length ≤ i + 1 ∧ x.free.length ≤ 2 + i ∧ SInv size x l ∧ k < 0 ∧ st.n = 4 ∧
        st.h b = some ⟨0, encX x⟩ ∧ st.h (b + 1) = some bk ∧ st.h (b + 3) = some (rowB ver (l.map encE) T) ∧ (∀ id, id < b → st.h id = hh id) ∧
        st.t 0 = IntV size ∧ st.t 5 = BoolV true ∧ st.t 6 = .one (.ptr b 0 0) ∧ st.t 8 = .one (.win (b + 3) ver 0 l.length cap) ∧ st.t 10 = .one (.p (.v (.int .i16 k))) ∧ st.t 44 = .one (.p (.sl 1 (ns.map encI16))) ∧ st.t 45 = IntV ns.length ∧ st.t 46 = IntV i))
    (fun st => st.n = 2 ∧ scriptJ size ns hh b i k st) ?_ ?_ ?_
  · by_cases hk0 : k < 0
    case neg =>
      refine AWP.seqReg (by kernel_rfl) (fun E K hE hK => ?_); simp -implicitDefEqProofs only [go_sem, ↓reduceIte, Nat.reduceEqDiff, Nat.reduceAdd, Nat.reduceMul, Nat.reduceLT, Nat.reduceLeDiff, reduceCtorEq, Int.toNat_natCast, hk0, decide_false]; refine hK _ _ _ ?_; clear hE hK K E
      refine AWP.ifF (by simp -implicitDefEqProofs only [go_sem, ↓reduceIte, Nat.reduceEqDiff, Nat.reduceAdd, Nat.reduceMul, Nat.reduceLT, Nat.reduceLeDiff, reduceCtorEq, Int.toNat_natCast]) ?_
      refine AWP.skip ?_
      refine .inl ⟨(by decide : 2 ≤ 2), ver, cap, T, l, x, q1, q2, q3, by omega, by omega, hS, fun _ => ⟨q4, q5⟩, cutH_same (Nat.lt_add_of_pos_right (by decide)) (by simp -implicitDefEqProofs only [go_sem, ↓reduceIte, Nat.reduceEqDiff, Nat.reduceAdd, Nat.reduceMul, Nat.reduceLT, Nat.reduceLeDiff, reduceCtorEq, Int.toNat_natCast, hb]) rfl, cutH_same (Nat.add_lt_add_left (by decide) _) (by simp -implicitDefEqProofs only [go_sem, ↓reduceIte, Nat.reduceEqDiff, Nat.reduceAdd, Nat.reduceMul, Nat.reduceLT, Nat.reduceLeDiff, reduceCtorEq, Int.toNat_natCast, hb1]) (lowCs_app (lowCs_p _ _) (lowCs_mono (Nat.zero_le _) q3)), cutH_outer (Nat.le_add_right _ _) ho hlow,
        by simp -implicitDefEqProofs only [go_sem, ↓reduceIte, Nat.reduceEqDiff, Nat.reduceAdd, Nat.reduceMul, Nat.reduceLT, Nat.reduceLeDiff, reduceCtorEq, Int.toNat_natCast, e0], by simp -implicitDefEqProofs only [go_sem, ↓reduceIte, Nat.reduceEqDiff, Nat.reduceAdd, Nat.reduceMul, Nat.reduceLT, Nat.reduceLeDiff, reduceCtorEq, Int.toNat_natCast, e5], by simp -implicitDefEqProofs only [go_sem, ↓reduceIte, Nat.reduceEqDiff, Nat.reduceAdd, Nat.reduceMul, Nat.reduceLT, Nat.reduceLeDiff, reduceCtorEq, Int.toNat_natCast, e6]; exact cutV_ptr (Nat.lt_add_of_pos_right (by decide)), by simp -implicitDefEqProofs only [go_sem, ↓reduceIte, Nat.reduceEqDiff, Nat.reduceAdd, Nat.reduceMul, Nat.reduceLT, Nat.reduceLeDiff, reduceCtorEq, Int.toNat_natCast, e8]; exact cutV_win (Nat.add_lt_add_left (by decide) _), by simp -implicitDefEqProofs only [go_sem, ↓reduceIte, Nat.reduceEqDiff, Nat.reduceAdd, Nat.reduceMul, Nat.reduceLT, Nat.reduceLeDiff, reduceCtorEq, Int.toNat_natCast], by simp -implicitDefEqProofs only [go_sem, ↓reduceIte, Nat.reduceEqDiff, Nat.reduceAdd, Nat.reduceMul, Nat.reduceLT, Nat.reduceLeDiff, reduceCtorEq, Int.toNat_natCast, e44], by simp -implicitDefEqProofs only [go_sem, ↓reduceIte, Nat.reduceEqDiff, Nat.reduceAdd, Nat.reduceMul, Nat.reduceLT, Nat.reduceLeDiff, reduceCtorEq, Int.toNat_natCast, e45], by simp -implicitDefEqProofs only [go_sem, ↓reduceIte, Nat.reduceEqDiff, Nat.reduceAdd, Nat.reduceMul, Nat.reduceLT, Nat.reduceLeDiff, reduceCtorEq, Int.toNat_natCast, e46]⟩
    refine AWP.seqReg (by kernel_rfl) (fun E K hE hK => ?_); simp -implicitDefEqProofs only [go_sem, ↓reduceIte, Nat.reduceEqDiff, Nat.reduceAdd, Nat.reduceMul, Nat.reduceLT, Nat.reduceLeDiff, reduceCtorEq, Int.toNat_natCast, e8, hb1, hk0, decide_true]; refine hK _ _ _ ?_; clear hE hK K E
    by_cases hlp : 0 < l.length
    case neg =>
      refine AWP.ifF (by simp -implicitDefEqProofs only [go_sem, ↓reduceIte, Nat.reduceEqDiff, Nat.reduceAdd, Nat.reduceMul, Nat.reduceLT, Nat.reduceLeDiff, reduceCtorEq, Int.toNat_natCast, show ¬ (0 : Int) < (l.length : Int) by omega]) ?_
      refine AWP.skip ?_
      refine .inl ⟨(by decide : 2 ≤ 2), ver, cap, T, l, x, q1, q2, q3, by omega, by omega, hS, fun h => by omega, cutH_same (Nat.lt_add_of_pos_right (by decide)) (by simp -implicitDefEqProofs only [go_sem, ↓reduceIte, Nat.reduceEqDiff, Nat.reduceAdd, Nat.reduceMul, Nat.reduceLT, Nat.reduceLeDiff, reduceCtorEq, Int.toNat_natCast, hb]) rfl, cutH_same (Nat.add_lt_add_left (by decide) _) (by simp -implicitDefEqProofs only [go_sem, ↓reduceIte, Nat.reduceEqDiff, Nat.reduceAdd, Nat.reduceMul, Nat.reduceLT, Nat.reduceLeDiff, reduceCtorEq, Int.toNat_natCast, hb1]) (lowCs_app (lowCs_p _ _) (lowCs_mono (Nat.zero_le _) q3)), cutH_outer (Nat.le_add_right _ _) ho hlow,
        by simp -implicitDefEqProofs only [go_sem, ↓reduceIte, Nat.reduceEqDiff, Nat.reduceAdd, Nat.reduceMul, Nat.reduceLT, Nat.reduceLeDiff, reduceCtorEq, Int.toNat_natCast, e0], by simp -implicitDefEqProofs only [go_sem, ↓reduceIte, Nat.reduceEqDiff, Nat.reduceAdd, Nat.reduceMul, Nat.reduceLT, Nat.reduceLeDiff, reduceCtorEq, Int.toNat_natCast, e5], by simp -implicitDefEqProofs only [go_sem, ↓reduceIte, Nat.reduceEqDiff, Nat.reduceAdd, Nat.reduceMul, Nat.reduceLT, Nat.reduceLeDiff, reduceCtorEq, Int.toNat_natCast, e6]; exact cutV_ptr (Nat.lt_add_of_pos_right (by decide)), by simp -implicitDefEqProofs only [go_sem, ↓reduceIte, Nat.reduceEqDiff, Nat.reduceAdd, Nat.reduceMul, Nat.reduceLT, Nat.reduceLeDiff, reduceCtorEq, Int.toNat_natCast, e8]; exact cutV_win (Nat.add_lt_add_left (by decide) _), by simp -implicitDefEqProofs only [go_sem, ↓reduceIte, Nat.reduceEqDiff, Nat.reduceAdd, Nat.reduceMul, Nat.reduceLT, Nat.reduceLeDiff, reduceCtorEq, Int.toNat_natCast], by simp -implicitDefEqProofs only [go_sem, ↓reduceIte, Nat.reduceEqDiff, Nat.reduceAdd, Nat.reduceMul, Nat.reduceLT, Nat.reduceLeDiff, reduceCtorEq, Int.toNat_natCast, e44], by simp -implicitDefEqProofs only [go_sem, ↓reduceIte, Nat.reduceEqDiff, Nat.reduceAdd, Nat.reduceMul, Nat.reduceLT, Nat.reduceLeDiff, reduceCtorEq, Int.toNat_natCast, e45], by simp -implicitDefEqProofs only [go_sem, ↓reduceIte, Nat.reduceEqDiff, Nat.reduceAdd, Nat.reduceMul, Nat.reduceLT, Nat.reduceLeDiff, reduceCtorEq, Int.toNat_natCast, e46]⟩
    refine AWP.ifT (by simp -implicitDefEqProofs only [go_sem, ↓reduceIte, Nat.reduceEqDiff, Nat.reduceAdd, Nat.reduceMul, Nat.reduceLT, Nat.reduceLeDiff, reduceCtorEq, Int.toNat_natCast, show (0 : Int) < (l.length : Int) by omega]) ?_
    have hz : ¬ (l.length : Int) = 0 := by omega
    have hw1 : IntKind.i64.wrap k = k := wrap_i64 (by omega) (by omega)
    have hw2 : IntKind.i64.wrap (0 - k) = -k := by rw [wrap_i64 (by omega) (by omega)]; omega
    obtain ⟨j, hj, hjk⟩ : ∃ j : Nat, j < l.length ∧ (-k).tmod l.length = (j : Int) := by
      rw [Int.tmod_eq_emod_of_nonneg (by omega)]
      have h1 := Int.emod_nonneg (-k) (show (l.length : Int) ≠ 0 by omega)
      have h2 := Int.emod_lt_of_pos (-k) (show 0 < (l.length : Int) by omega)
      exact ⟨((-k) % l.length).toNat, by omega, by omega⟩
    refine AWP.seqReg (by kernel_rfl) (fun E K hE hK => ?_); simp -implicitDefEqProofs only [go_sem, ↓reduceIte, Nat.reduceEqDiff, Nat.reduceAdd, Nat.reduceMul, Nat.reduceLT, Nat.reduceLeDiff, reduceCtorEq, Int.toNat_natCast, e8, hb1, hw1, hw2, hz, hjk]
    refine hK _ _ _ ?_; clear hE hK K E
    have hwg := hS.give hj
    have hgl2 := give_len x l[j]
    have hpart := row_part T (okEs_ext l) (show (l.map encE)[j]? = some (encE l[j]) by simp [hj])
    generalize hlj : l[j] = f at hwg hgl2 hpart
    refine AWP.known (fun hnew => ?_)
    have hnew3 : h2 (b + 2) = none := hnew _ (Nat.le_refl _)
    refine AWP.seqRegD [69] [.tup [ExtsV (giveX x f).1, IntV (giveX x f).2]] [] mixed (by kernel_rfl) (by kernel_rfl) (fun K hK => .inl ?_) (by kernel_rfl); simp -implicitDefEqProofs only [go_sem, ↓reduceIte, Nat.reduceEqDiff, Nat.reduceAdd, Nat.reduceMul, Nat.reduceLT, Nat.reduceLeDiff, reduceCtorEq, Int.toNat_natCast, e6, e8, hb, hb1, encX, hpart, encE]
    have hfl : ((l.map encE).flatten.map Cell.p ++ T).length = cap * 2 := by rw [List.length_append, List.length_map, okEs_len (okEs_ext _), List.length_map]; omega
    refine ⟨⟨by omega, by omega⟩, by omega, ?_⟩
    refine CallP.use (fun _ _ _ => giveZ_ok x f _ _ (by omega)) body_11 ?_
    generalize giveX x f = G at hwg hgl2
    obtain ⟨z, e⟩ := G
    simp only at hwg hgl2
    obtain ⟨rfl, hw'⟩ := hwg
    simp -implicitDefEqProofs only [go_sem, ↓reduceIte, Nat.reduceEqDiff, Nat.reduceAdd, Nat.reduceMul, Nat.reduceLT, Nat.reduceLeDiff, reduceCtorEq, Int.toNat_natCast, ExtsV]
    refine ⟨(Sub.refl h2).new hnew3, (Sub.refl h2).new hnew3, ?_⟩
    refine hK _ _ _ ?_; clear hK K
    refine AWP.seq ?_
    refine AWP.seqReg (by kernel_rfl) (fun E K hE hK => ?_); simp -implicitDefEqProofs only [go_sem, ↓reduceIte, Nat.reduceEqDiff, Nat.reduceAdd, Nat.reduceMul, Nat.reduceLT, Nat.reduceLeDiff, reduceCtorEq, Int.toNat_natCast, decide_true, Bool.not_true]; refine hK _ _ _ ?_; clear hE hK K E
    refine AWP.ifF (by simp -implicitDefEqProofs only [go_sem, ↓reduceIte, Nat.reduceEqDiff, Nat.reduceAdd, Nat.reduceMul, Nat.reduceLT, Nat.reduceLeDiff, reduceCtorEq, Int.toNat_natCast]) ?_; refine AWP.skip ?_; simp -implicitDefEqProofs only [go_sem, ↓reduceIte, Nat.reduceEqDiff, Nat.reduceAdd, Nat.reduceMul, Nat.reduceLT, Nat.reduceLeDiff, reduceCtorEq, Int.toNat_natCast]
    refine AWP.seqReg (by kernel_rfl) (fun E K hE hK => ?_); simp -implicitDefEqProofs only [go_sem, ↓reduceIte, Nat.reduceEqDiff, Nat.reduceAdd, Nat.reduceMul, Nat.reduceLT, Nat.reduceLeDiff, reduceCtorEq, Int.toNat_natCast, e6, hb, encX]; refine hK _ _ _ ?_; clear hE hK K E
    have hj1 : IntKind.i64.wrap ((j : Int) + 1) = ((j + 1 : Nat) : Int) := wrap_i64 (by omega) (by omega)
    refine AWP.known (fun hnew => ?_)
    have hnew4 := hnew (b + 3) (Nat.le_refl _)
    refine AWP.rgD [] [] [] mixed (by kernel_rfl) (by kernel_rfl) (fun K hK => ?_) (by kernel_rfl); simp -implicitDefEqProofs only [go_sem, ↓reduceIte, Nat.reduceEqDiff, Nat.reduceAdd, Nat.reduceMul, Nat.reduceLT, Nat.reduceLeDiff, reduceCtorEq, Int.toNat_natCast, e8, hb1, hj1, Option.map_some, Option.map_none, Nat.zero_mul]
    refine ⟨⟨by omega, by omega⟩, ?_⟩
    have hel : (l.map encE).length = l.length := List.length_map _
    have hlt1 : (l.take j).length = j := by rw [List.length_take]; omega
    have hld1 : (l.drop (j + 1)).length = l.length - (j + 1) := List.length_drop
    refine BiD.of ?_
    refine BiK.append_nil (e := 33) (sz := 2) (bytes := 16) (m := j) ty_slE_24 ty_tsz_33 ty_tzero_33 rfl ty_tby_33 ty_isIntT_24
      (srcA_row (sz := 2) (m := j) (es := l.map encE) (T := T) 0 (by simp -implicitDefEqProofs only [go_sem, ↓reduceIte, Nat.reduceEqDiff, Nat.reduceAdd, Nat.reduceMul, Nat.reduceLT, Nat.reduceLeDiff, reduceCtorEq, Int.toNat_natCast, hb1]) (okEs_ext l) (by omega) (.inl rfl)) (okEs_flat (((okEs_ext l).drop 0).take j) _) (by omega) (by decide) (by omega) (fun cap1 r1 g1 g2 => ?_)
    refine ⟨(Sub.refl _).new hnew4, ?_⟩
    rw [show ((l.map encE).drop 0).take j = (l.take j).map encE by rw [List.drop_zero, List.map_take]]
    have hbl : (((l.take j).map encE).flatten.map Cell.p ++ List.replicate r1 Cell.junk).length = cap1 * 2 := by
      rw [List.length_append, List.length_map, okEs_len (okEs_ext _), List.length_map, List.length_replicate]; omega
    generalize hbk : ((l.take j).map encE).flatten.map Cell.p ++ List.replicate r1 Cell.junk = bk at hbl ⊢
    simp -implicitDefEqProofs only [go_sem, ↓reduceIte, Nat.reduceEqDiff, Nat.reduceAdd, Nat.reduceMul, Nat.reduceLT, Nat.reduceLeDiff, reduceCtorEq, Int.toNat_natCast, e8, hb1, hj1, Option.map_some, Option.map_none, Nat.zero_add]
    refine ⟨⟨by omega, by omega⟩, ?_⟩
    have hsrc2 : srcA (upd (upd (upd h2 (b + 2) ⟨0, [.p (.v (.int .i64 z.size)), .p (.sl 2 (z.free.map encE))]⟩) b ⟨0, [.p (.v (.int .i64 z.size)), .p (.sl 2 (z.free.map encE))]⟩) (b + 3) ⟨1, bk⟩) 2 (.one (.win (b + 1) ver (if cap = j + 1 then 0 else (j + 1) * 2) (l.length - (j + 1)) (cap - (j + 1)))) = some (l.length - (j + 1), ((l.drop (j + 1)).map encE).flatten.map .p) := by
      have := srcA_row (h := upd (upd (upd h2 (b + 2) ⟨0, [.p (.v (.int .i64 z.size)), .p (.sl 2 (z.free.map encE))]⟩) b ⟨0, [.p (.v (.int .i64 z.size)), .p (.sl 2 (z.free.map encE))]⟩) (b + 3) ⟨1, bk⟩) (id := b + 1) (ver := ver) (cap := cap - (j + 1)) (off := if cap = j + 1 then 0 else (j + 1) * 2) (sz := 2) (m := l.length - (j + 1)) (es := l.map encE) (T := T) (j + 1) (by simp -implicitDefEqProofs only [go_sem, ↓reduceIte, Nat.reduceEqDiff, Nat.reduceAdd, Nat.reduceMul, Nat.reduceLT, Nat.reduceLeDiff, reduceCtorEq, Int.toNat_natCast, hb1]) (okEs_ext l) (by omega) (by
        by_cases hcj : cap = j + 1
        · rw [if_pos hcj]; exact .inr ⟨by omega, rfl⟩
        · rw [if_neg hcj]; exact .inl rfl)
      rw [this, List.take_of_length_le (by simp), List.map_drop]
    refine BiD.of ?_
    refine BiK.append_own (e := 33) (sz := 2) (bytes := 16) (m := l.length - (j + 1)) (xs := ((l.drop (j + 1)).map encE).flatten.map .p) (blk := ⟨1, bk⟩) ty_slE_24 ty_tsz_33 ty_tzero_33 rfl ty_tby_33 ty_isIntT_24 (upd_same _ _ _) rfl hbl
      hsrc2 (okEs_flat (okEs_ext (l.drop (j + 1))) _) (by omega) (by decide) (by omega) (fun cap2 r2 g3 g4 => ?_)
    rw [upd_upd]
    refine ⟨(Sub.refl _).new hnew4, ?_⟩
    subst hbk
    have hrow := row_push (sz := 2) (ver := 1 + 1) (len := j) (es := (l.take j).map encE) (fs := (l.drop (j + 1)).map encE) (T := List.replicate r1 .junk) (okEs_ext _) (by rw [List.length_map, hlt1]) r2
    rw [← List.map_append] at hrow
    have hll : (l.take j ++ l.drop (j + 1)).length = j + (l.length - (j + 1)) := by rw [List.length_append, hlt1, hld1]
    rw [hrow, ← hll]
    generalize hl2 : l.take j ++ l.drop (j + 1) = l2 at hw' hll ⊢
    simp -implicitDefEqProofs only [go_sem, ↓reduceIte, Nat.reduceEqDiff, Nat.reduceAdd, Nat.reduceMul, Nat.reduceLT, Nat.reduceLeDiff, reduceCtorEq, Int.toNat_natCast]
    refine hK _ _ _ ?_; clear hK K
    exact .inr ⟨1 + 1, cap2, rowB ver (l.map encE) T, List.replicate r2 .junk, l2, z, by omega, by rw [List.length_replicate]; omega, lowCs_junk _ _, by omega, by omega, hw', hk0, rfl, by (first | (simp -implicitDefEqProofs only [go_sem, ↓reduceIte, Nat.reduceEqDiff, Nat.reduceAdd, Nat.reduceMul, Nat.reduceLT, Nat.reduceLeDiff, reduceCtorEq, Int.toNat_natCast]; done) | (simp -implicitDefEqProofs only [go_sem, ↓reduceIte, Nat.reduceEqDiff, Nat.reduceAdd, Nat.reduceMul, Nat.reduceLT, Nat.reduceLeDiff, reduceCtorEq, Int.toNat_natCast]; rfl) | rfl), by (first | (simp -implicitDefEqProofs only [go_sem, ↓reduceIte, Nat.reduceEqDiff, Nat.reduceAdd, Nat.reduceMul, Nat.reduceLT, Nat.reduceLeDiff, reduceCtorEq, Int.toNat_natCast, hb1]; done) | (simp -implicitDefEqProofs only [go_sem, ↓reduceIte, Nat.reduceEqDiff, Nat.reduceAdd, Nat.reduceMul, Nat.reduceLT, Nat.reduceLeDiff, reduceCtorEq, Int.toNat_natCast, hb1]; rfl) | rfl), by (first | (simp -implicitDefEqProofs only [go_sem, ↓reduceIte, Nat.reduceEqDiff, Nat.reduceAdd, Nat.reduceMul, Nat.reduceLT, Nat.reduceLeDiff, reduceCtorEq, Int.toNat_natCast]; done) | (simp -implicitDefEqProofs only [go_sem, ↓reduceIte, Nat.reduceEqDiff, Nat.reduceAdd, Nat.reduceMul, Nat.reduceLT, Nat.reduceLeDiff, reduceCtorEq, Int.toNat_natCast]; rfl) | rfl), ((fun id (hid : id < b) => by simp -implicitDefEqProofs only [go_sem, ↓reduceIte, Nat.reduceEqDiff, Nat.reduceAdd, Nat.reduceMul, Nat.reduceLT, Nat.reduceLeDiff, reduceCtorEq, Int.toNat_natCast, show ¬ id = b by omega, show ¬ id = b + 1 by omega, show ¬ id = b + 2 by omega, show ¬ id = b + 3 by omega, ho id hid])), by simp -implicitDefEqProofs only [go_sem, ↓reduceIte, Nat.reduceEqDiff, Nat.reduceAdd, Nat.reduceMul, Nat.reduceLT, Nat.reduceLeDiff, reduceCtorEq, Int.toNat_natCast, e0], by simp -implicitDefEqProofs only [go_sem, ↓reduceIte, Nat.reduceEqDiff, Nat.reduceAdd, Nat.reduceMul, Nat.reduceLT, Nat.reduceLeDiff, reduceCtorEq, Int.toNat_natCast, e5], by simp -implicitDefEqProofs only [go_sem, ↓reduceIte, Nat.reduceEqDiff, Nat.reduceAdd, Nat.reduceMul, Nat.reduceLT, Nat.reduceLeDiff, reduceCtorEq, Int.toNat_natCast, e6], by simp -implicitDefEqProofs only [go_sem, ↓reduceIte, Nat.reduceEqDiff, Nat.reduceAdd, Nat.reduceMul, Nat.reduceLT, Nat.reduceLeDiff, reduceCtorEq, Int.toNat_natCast], by simp -implicitDefEqProofs only [go_sem, ↓reduceIte, Nat.reduceEqDiff, Nat.reduceAdd, Nat.reduceMul, Nat.reduceLT, Nat.reduceLeDiff, reduceCtorEq, Int.toNat_natCast], by simp -implicitDefEqProofs only [go_sem, ↓reduceIte, Nat.reduceEqDiff, Nat.reduceAdd, Nat.reduceMul, Nat.reduceLT, Nat.reduceLeDiff, reduceCtorEq, Int.toNat_natCast, e44], by simp -implicitDefEqProofs only [go_sem, ↓reduceIte, Nat.reduceEqDiff, Nat.reduceAdd, Nat.reduceMul, Nat.reduceLT, Nat.reduceLeDiff, reduceCtorEq, Int.toNat_natCast, e45], by simp -implicitDefEqProofs only [go_sem, ↓reduceIte, Nat.reduceEqDiff, Nat.reduceAdd, Nat.reduceMul, Nat.reduceLT, Nat.reduceLeDiff, reduceCtorEq, Int.toNat_natCast, e46]⟩
  · rintro c Q ⟨t, h3, m⟩ hM kk
    rcases hM with ⟨hm, hJ⟩ | ⟨ver, cap, bk, T, l, x, q1, q2, q3, q4, q5, hS, hk0, hm, hb, hb1, hb3, ho, e0, e5, e6, e8, e10, e44, e45, e46⟩
    · exact AWP.cutN 2 hm (kk _ ⟨rfl, hJ⟩)
    · simp only at hm hb hb1 hb3 ho e0 e5 e6 e8 e10 e44 e45 e46
      subst hm
      refine AWP.rehome 8 (b + 3) (b + 1) (Nat.le_add_right _ _) (Nat.le_add_right _ _) (by omega) e8 hb3 hb1 ?_
      refine AWP.cutN 2 (by decide : 2 ≤ 4) (kk _ ⟨rfl, bk.ver + 1, cap, T, l, x, q1, q2, q3, q4, q5, hS, fun h => by omega, cutH_same (Nat.lt_add_of_pos_right (by decide)) (by simp -implicitDefEqProofs only [go_sem, ↓reduceIte, Nat.reduceEqDiff, Nat.reduceAdd, Nat.reduceMul, Nat.reduceLT, Nat.reduceLeDiff, reduceCtorEq, Int.toNat_natCast, hb, delH_lit]) rfl, cutH_same (Nat.add_lt_add_left (by decide) _) (by simp -implicitDefEqProofs only [go_sem, ↓reduceIte, Nat.reduceEqDiff, Nat.reduceAdd, Nat.reduceMul, Nat.reduceLT, Nat.reduceLeDiff, reduceCtorEq, Int.toNat_natCast]) (lowCs_app (lowCs_p _ _) (lowCs_mono (Nat.zero_le _) q3)), cutH_outer (Nat.le_add_right _ _) ?_ hlow,
        by simp -implicitDefEqProofs only [go_sem, ↓reduceIte, Nat.reduceEqDiff, Nat.reduceAdd, Nat.reduceMul, Nat.reduceLT, Nat.reduceLeDiff, reduceCtorEq, Int.toNat_natCast, e0], by simp -implicitDefEqProofs only [go_sem, ↓reduceIte, Nat.reduceEqDiff, Nat.reduceAdd, Nat.reduceMul, Nat.reduceLT, Nat.reduceLeDiff, reduceCtorEq, Int.toNat_natCast, e5], by simp -implicitDefEqProofs only [go_sem, ↓reduceIte, Nat.reduceEqDiff, Nat.reduceAdd, Nat.reduceMul, Nat.reduceLT, Nat.reduceLeDiff, reduceCtorEq, Int.toNat_natCast, e6]; exact cutV_ptr (Nat.lt_add_of_pos_right (by decide)), by simp -implicitDefEqProofs only [go_sem, ↓reduceIte, Nat.reduceEqDiff, Nat.reduceAdd, Nat.reduceMul, Nat.reduceLT, Nat.reduceLeDiff, reduceCtorEq, Int.toNat_natCast]; exact cutV_win (Nat.add_lt_add_left (by decide) _), by simp -implicitDefEqProofs only [go_sem, ↓reduceIte, Nat.reduceEqDiff, Nat.reduceAdd, Nat.reduceMul, Nat.reduceLT, Nat.reduceLeDiff, reduceCtorEq, Int.toNat_natCast, e10], by simp -implicitDefEqProofs only [go_sem, ↓reduceIte, Nat.reduceEqDiff, Nat.reduceAdd, Nat.reduceMul, Nat.reduceLT, Nat.reduceLeDiff, reduceCtorEq, Int.toNat_natCast, e44], by simp -implicitDefEqProofs only [go_sem, ↓reduceIte, Nat.reduceEqDiff, Nat.reduceAdd, Nat.reduceMul, Nat.reduceLT, Nat.reduceLeDiff, reduceCtorEq, Int.toNat_natCast, e45], by simp -implicitDefEqProofs only [go_sem, ↓reduceIte, Nat.reduceEqDiff, Nat.reduceAdd, Nat.reduceMul, Nat.reduceLT, Nat.reduceLeDiff, reduceCtorEq, Int.toNat_natCast, e46]⟩)
      intro id hid
      simp -implicitDefEqProofs only [go_sem, ↓reduceIte, Nat.reduceEqDiff, Nat.reduceAdd, Nat.reduceMul, Nat.reduceLT, Nat.reduceLeDiff, reduceCtorEq, Int.toNat_natCast, delH_lit, show ¬ id = b + 1 by omega, show ¬ id = b + 3 by omega, ho id hid]
  clear hb hb1 ho e0 e5 e6 e8 e44 e45 e46 q1 q2 q3 q4 q5 hS
  clear x l T cap ver t h2
  rintro ⟨t, h2, m⟩ ⟨hm, ver, cap, T, l, x, q1, q2, q3, q4, q5, hS, hpos, hb, hb1, ho, e0, e5, e6, e8, e10, e44, e45, e46⟩
  simp only at hm hb hb1 ho e0 e5 e6 e8 e10 e44 e45 e46
  subst hm
  refine AWP.midC 2 (scriptL size ns hh b i) ?_ ?_
  · by_cases hk0 : 0 < k
    case neg =>
      refine AWP.seqReg (by kernel_rfl) (fun E K hE hK => ?_); simp -implicitDefEqProofs only [go_sem, ↓reduceIte, Nat.reduceEqDiff, Nat.reduceAdd, Nat.reduceMul, Nat.reduceLT, Nat.reduceLeDiff, reduceCtorEq, Int.toNat_natCast, e10, hk0, decide_false]; refine hK _ _ _ ?_; clear hE hK K E
      refine AWP.ifF (by simp -implicitDefEqProofs only [go_sem, ↓reduceIte, Nat.reduceEqDiff, Nat.reduceAdd, Nat.reduceMul, Nat.reduceLT, Nat.reduceLeDiff, reduceCtorEq, Int.toNat_natCast]) ?_
      refine AWP.skip ?_
      exact ⟨Nat.le_refl _, ver, cap, T, l, x, q1, q2, q3, q4, q5, hS, cutH_same (Nat.lt_add_of_pos_right (by decide)) (by (first | (simp -implicitDefEqProofs only [go_sem, ↓reduceIte, Nat.reduceEqDiff, Nat.reduceAdd, Nat.reduceMul, Nat.reduceLT, Nat.reduceLeDiff, reduceCtorEq, Int.toNat_natCast, hb]; done) | (simp -implicitDefEqProofs only [go_sem, ↓reduceIte, Nat.reduceEqDiff, Nat.reduceAdd, Nat.reduceMul, Nat.reduceLT, Nat.reduceLeDiff, reduceCtorEq, Int.toNat_natCast, hb]; rfl) | rfl)) rfl, cutH_same (Nat.add_lt_add_left (by decide) _) (by (first | (simp -implicitDefEqProofs only [go_sem, ↓reduceIte, Nat.reduceEqDiff, Nat.reduceAdd, Nat.reduceMul, Nat.reduceLT, Nat.reduceLeDiff, reduceCtorEq, Int.toNat_natCast, hb1]; done) | (simp -implicitDefEqProofs only [go_sem, ↓reduceIte, Nat.reduceEqDiff, Nat.reduceAdd, Nat.reduceMul, Nat.reduceLT, Nat.reduceLeDiff, reduceCtorEq, Int.toNat_natCast, hb1]; rfl) | rfl)) (lowCs_app (lowCs_p _ _) (lowCs_mono (Nat.zero_le _) q3)), cutH_outer (Nat.le_add_right _ _) ho hlow,
        by simp -implicitDefEqProofs only [go_sem, ↓reduceIte, Nat.reduceEqDiff, Nat.reduceAdd, Nat.reduceMul, Nat.reduceLT, Nat.reduceLeDiff, reduceCtorEq, Int.toNat_natCast, e0], by simp -implicitDefEqProofs only [go_sem, ↓reduceIte, Nat.reduceEqDiff, Nat.reduceAdd, Nat.reduceMul, Nat.reduceLT, Nat.reduceLeDiff, reduceCtorEq, Int.toNat_natCast, e5], by simp -implicitDefEqProofs only [go_sem, ↓reduceIte, Nat.reduceEqDiff, Nat.reduceAdd, Nat.reduceMul, Nat.reduceLT, Nat.reduceLeDiff, reduceCtorEq, Int.toNat_natCast, e6]; exact cutV_ptr (Nat.lt_add_of_pos_right (by decide)), by simp -implicitDefEqProofs only [go_sem, ↓reduceIte, Nat.reduceEqDiff, Nat.reduceAdd, Nat.reduceMul, Nat.reduceLT, Nat.reduceLeDiff, reduceCtorEq, Int.toNat_natCast, e8]; exact cutV_win (Nat.add_lt_add_left (by decide) _), by simp -implicitDefEqProofs only [go_sem, ↓reduceIte, Nat.reduceEqDiff, Nat.reduceAdd, Nat.reduceMul, Nat.reduceLT, Nat.reduceLeDiff, reduceCtorEq, Int.toNat_natCast, e44], by simp -implicitDefEqProofs only [go_sem, ↓reduceIte, Nat.reduceEqDiff, Nat.reduceAdd, Nat.reduceMul, Nat.reduceLT, Nat.reduceLeDiff, reduceCtorEq, Int.toNat_natCast, e45], by simp -implicitDefEqProofs only [go_sem, ↓reduceIte, Nat.reduceEqDiff, Nat.reduceAdd, Nat.reduceMul, Nat.reduceLT, Nat.reduceLeDiff, reduceCtorEq, Int.toNat_natCast, e46]⟩
    have hw1 : IntKind.i64.wrap k = k := wrap_i64 (by omega) (by omega)
    obtain ⟨q4', q5'⟩ := hpos hk0
    refine AWP.seqReg (by kernel_rfl) (fun E K hE hK => ?_); simp -implicitDefEqProofs only [go_sem, ↓reduceIte, Nat.reduceEqDiff, Nat.reduceAdd, Nat.reduceMul, Nat.reduceLT, Nat.reduceLeDiff, reduceCtorEq, Int.toNat_natCast, e10, hk0, decide_true]; refine hK _ _ _ ?_; clear hE hK K E
    refine AWP.ifT (by simp -implicitDefEqProofs only [go_sem, ↓reduceIte, Nat.reduceEqDiff, Nat.reduceAdd, Nat.reduceMul, Nat.reduceLT, Nat.reduceLeDiff, reduceCtorEq, Int.toNat_natCast]) ?_
    refine AWP.seqReg (by kernel_rfl) (fun E K hE hK => ?_); simp -implicitDefEqProofs only [go_sem, ↓reduceIte, Nat.reduceEqDiff, Nat.reduceAdd, Nat.reduceMul, Nat.reduceLT, Nat.reduceLeDiff, reduceCtorEq, Int.toNat_natCast, e6, e10, hb, encX, hw1]
    refine CallR.use (takeZ_ok x k _ _ (by omega)) body_12 ?_; rintro _ h_ ⟨rfl, e_⟩; rw [e_]; clear e_ h_; simp -implicitDefEqProofs only [go_sem, ↓reduceIte, Nat.reduceEqDiff, Nat.reduceAdd, Nat.reduceMul, Nat.reduceLT, Nat.reduceLeDiff, reduceCtorEq, Int.toNat_natCast]
    have hT := hS.take (n := k) (by omega) (by omega)
    have htl := take_len x k (by omega)
    generalize takeX x k = A at hT htl
    obtain ⟨s, z, e⟩ := A
    simp only at hT htl
    simp -implicitDefEqProofs only [go_sem, ↓reduceIte, Nat.reduceEqDiff, Nat.reduceAdd, Nat.reduceMul, Nat.reduceLT, Nat.reduceLeDiff, reduceCtorEq, Int.toNat_natCast, e6, e10, hb, encX, hw1, ExtV, ExtsV]
    refine hK _ _ _ ?_; clear hE hK K E
    refine AWP.seq ?_
    have h99 : (!decide (e = 0)) = false ∨ (!decide (e = 6)) = false := by rcases hT.1 with h | h <;> simp [h]
    rcases hT.1 with he | he
    · subst he
      refine AWP.seqReg (by kernel_rfl) (fun E K hE hK => ?_); simp -implicitDefEqProofs only [go_sem, ↓reduceIte, Nat.reduceEqDiff, Nat.reduceAdd, Nat.reduceMul, Nat.reduceLT, Nat.reduceLeDiff, reduceCtorEq, Int.toNat_natCast, decide_false, decide_true, Int.reduceEq, Bool.not_false, Bool.not_true]; refine hK _ _ _ ?_; clear hE hK K E
      refine AWP.ifF (by simp -implicitDefEqProofs only [go_sem, ↓reduceIte, Nat.reduceEqDiff, Nat.reduceAdd, Nat.reduceMul, Nat.reduceLT, Nat.reduceLeDiff, reduceCtorEq, Int.toNat_natCast]) ?_; refine AWP.skip ?_; simp -implicitDefEqProofs only [go_sem, ↓reduceIte, Nat.reduceEqDiff, Nat.reduceAdd, Nat.reduceMul, Nat.reduceLT, Nat.reduceLeDiff, reduceCtorEq, Int.toNat_natCast]
      refine AWP.seqReg (by kernel_rfl) (fun E K hE hK => ?_); simp -implicitDefEqProofs only [go_sem, ↓reduceIte, Nat.reduceEqDiff, Nat.reduceAdd, Nat.reduceMul, Nat.reduceLT, Nat.reduceLeDiff, reduceCtorEq, Int.toNat_natCast, decide_false, Int.reduceEq]; refine hK _ _ _ ?_; clear hE hK K E
      refine AWP.ifF (by simp -implicitDefEqProofs only [go_sem, ↓reduceIte, Nat.reduceEqDiff, Nat.reduceAdd, Nat.reduceMul, Nat.reduceLT, Nat.reduceLeDiff, reduceCtorEq, Int.toNat_natCast]) ?_
      refine AWP.skip ?_
      exact ⟨(by decide : 2 ≤ 4), ver, cap, T, l, x, q1, q2, q3, q4, q5, hS, cutH_same (Nat.lt_add_of_pos_right (by decide)) (by (first | (simp -implicitDefEqProofs only [go_sem, ↓reduceIte, Nat.reduceEqDiff, Nat.reduceAdd, Nat.reduceMul, Nat.reduceLT, Nat.reduceLeDiff, reduceCtorEq, Int.toNat_natCast, hb]; done) | (simp -implicitDefEqProofs only [go_sem, ↓reduceIte, Nat.reduceEqDiff, Nat.reduceAdd, Nat.reduceMul, Nat.reduceLT, Nat.reduceLeDiff, reduceCtorEq, Int.toNat_natCast, hb]; rfl) | rfl)) rfl, cutH_same (Nat.add_lt_add_left (by decide) _) (by (first | (simp -implicitDefEqProofs only [go_sem, ↓reduceIte, Nat.reduceEqDiff, Nat.reduceAdd, Nat.reduceMul, Nat.reduceLT, Nat.reduceLeDiff, reduceCtorEq, Int.toNat_natCast, hb1]; done) | (simp -implicitDefEqProofs only [go_sem, ↓reduceIte, Nat.reduceEqDiff, Nat.reduceAdd, Nat.reduceMul, Nat.reduceLT, Nat.reduceLeDiff, reduceCtorEq, Int.toNat_natCast, hb1]; rfl) | rfl)) (lowCs_app (lowCs_p _ _) (lowCs_mono (Nat.zero_le _) q3)), cutH_outer (Nat.le_add_right _ _) (lowEq_ne (lowEq_ne (lowEq_ne (lowEq_ne ho (Nat.le_add_right _ _) _) (Nat.le_add_right _ _) _) (Nat.le_add_right _ _) _) (Nat.le_add_right _ _) _) hlow,
        by simp -implicitDefEqProofs only [go_sem, ↓reduceIte, Nat.reduceEqDiff, Nat.reduceAdd, Nat.reduceMul, Nat.reduceLT, Nat.reduceLeDiff, reduceCtorEq, Int.toNat_natCast, e0], by simp -implicitDefEqProofs only [go_sem, ↓reduceIte, Nat.reduceEqDiff, Nat.reduceAdd, Nat.reduceMul, Nat.reduceLT, Nat.reduceLeDiff, reduceCtorEq, Int.toNat_natCast, e5], by simp -implicitDefEqProofs only [go_sem, ↓reduceIte, Nat.reduceEqDiff, Nat.reduceAdd, Nat.reduceMul, Nat.reduceLT, Nat.reduceLeDiff, reduceCtorEq, Int.toNat_natCast, e6]; exact cutV_ptr (Nat.lt_add_of_pos_right (by decide)), by simp -implicitDefEqProofs only [go_sem, ↓reduceIte, Nat.reduceEqDiff, Nat.reduceAdd, Nat.reduceMul, Nat.reduceLT, Nat.reduceLeDiff, reduceCtorEq, Int.toNat_natCast, e8]; exact cutV_win (Nat.add_lt_add_left (by decide) _), by simp -implicitDefEqProofs only [go_sem, ↓reduceIte, Nat.reduceEqDiff, Nat.reduceAdd, Nat.reduceMul, Nat.reduceLT, Nat.reduceLeDiff, reduceCtorEq, Int.toNat_natCast, e44], by simp -implicitDefEqProofs only [go_sem, ↓reduceIte, Nat.reduceEqDiff, Nat.reduceAdd, Nat.reduceMul, Nat.reduceLT, Nat.reduceLeDiff, reduceCtorEq, Int.toNat_natCast, e45], by simp -implicitDefEqProofs only [go_sem, ↓reduceIte, Nat.reduceEqDiff, Nat.reduceAdd, Nat.reduceMul, Nat.reduceLT, Nat.reduceLeDiff, reduceCtorEq, Int.toNat_natCast, e46]⟩
    · subst he
      have hS' := hT.2 rfl
      refine AWP.seqReg (by kernel_rfl) (fun E K hE hK => ?_); simp -implicitDefEqProofs only [go_sem, ↓reduceIte, Nat.reduceEqDiff, Nat.reduceAdd, Nat.reduceMul, Nat.reduceLT, Nat.reduceLeDiff, reduceCtorEq, Int.toNat_natCast, decide_true, Bool.not_true]; refine hK _ _ _ ?_; clear hE hK K E
      refine AWP.ifF (by simp -implicitDefEqProofs only [go_sem, ↓reduceIte, Nat.reduceEqDiff, Nat.reduceAdd, Nat.reduceMul, Nat.reduceLT, Nat.reduceLeDiff, reduceCtorEq, Int.toNat_natCast]) ?_; refine AWP.skip ?_; simp -implicitDefEqProofs only [go_sem, ↓reduceIte, Nat.reduceEqDiff, Nat.reduceAdd, Nat.reduceMul, Nat.reduceLT, Nat.reduceLeDiff, reduceCtorEq, Int.toNat_natCast]
      refine AWP.seqReg (by kernel_rfl) (fun E K hE hK => ?_); simp -implicitDefEqProofs only [go_sem, ↓reduceIte, Nat.reduceEqDiff, Nat.reduceAdd, Nat.reduceMul, Nat.reduceLT, Nat.reduceLeDiff, reduceCtorEq, Int.toNat_natCast, decide_true]; refine hK _ _ _ ?_; clear hE hK K E
      refine AWP.ifT (by simp -implicitDefEqProofs only [go_sem, ↓reduceIte, Nat.reduceEqDiff, Nat.reduceAdd, Nat.reduceMul, Nat.reduceLT, Nat.reduceLeDiff, reduceCtorEq, Int.toNat_natCast]) ?_
      refine AWP.seqReg (by kernel_rfl) (fun E K hE hK => ?_); simp -implicitDefEqProofs only [go_sem, ↓reduceIte, Nat.reduceEqDiff, Nat.reduceAdd, Nat.reduceMul, Nat.reduceLT, Nat.reduceLeDiff, reduceCtorEq, Int.toNat_natCast, e6, hb, encX]; refine hK _ _ _ ?_; clear hE hK K E
      refine AWP.reg (by kernel_rfl) (fun E K hE hK => ?_); simp -implicitDefEqProofs only [go_sem, ↓reduceIte, Nat.reduceEqDiff, Nat.reduceAdd, Nat.reduceMul, Nat.reduceLT, Nat.reduceLeDiff, reduceCtorEq, Int.toNat_natCast, e8]
      refine BiR.of ?_
      refine BiK.append_own (e := 33) (sz := 2) (bytes := 16) (blk := rowB ver (l.map encE) T) ty_slE_24 ty_tsz_33 ty_tzero_33 rfl ty_tby_33 ty_isIntT_24 (by simp -implicitDefEqProofs only [go_sem, ↓reduceIte, Nat.reduceEqDiff, Nat.reduceAdd, Nat.reduceMul, Nat.reduceLT, Nat.reduceLeDiff, reduceCtorEq, Int.toNat_natCast, hb1]) rfl
        (by rw [List.length_append, List.length_map, okEs_len (okEs_ext l), List.length_map]; omega) (srcA_row (sz := 2) (m := 1) (es := [encE s]) (T := []) 0 (by simp -implicitDefEqProofs only [go_sem, ↓reduceIte, Nat.reduceEqDiff, Nat.reduceAdd, Nat.reduceMul, Nat.reduceLT, Nat.reduceLeDiff, reduceCtorEq, Int.toNat_natCast]; rfl) (okEs_ext [s]) (Nat.le_refl _) (.inl rfl)) (okEs_flat (okEs_ext [s]) _) (by omega) (by decide) (by omega) (fun cap' j g1 g2 => ?_)
      rw [show List.take 1 (List.drop 0 [encE s]) = [encE s] from rfl, row_push (okEs_ext l) (by rw [List.length_map])]
      rw [show l.map encE ++ [encE s] = (l ++ [s]).map encE by simp]
      have hlr : (l ++ [s]).length = l.length + 1 := by simp
      generalize hrr : l ++ [s] = rr at hS' hlr ⊢
      rw [← hlr]
      simp -implicitDefEqProofs only [go_sem, ↓reduceIte, Nat.reduceEqDiff, Nat.reduceAdd, Nat.reduceMul, Nat.reduceLT, Nat.reduceLeDiff, reduceCtorEq, Int.toNat_natCast]
      refine hK _ _ _ ?_; clear hE hK K E
      exact ⟨(by decide : 2 ≤ 5), ver + 1, cap', List.replicate j .junk, rr, z, by omega, by rw [List.length_replicate]; omega, lowCs_junk _ _, by omega, by omega, hS', cutH_same (Nat.lt_add_of_pos_right (by decide)) (by (first | (simp -implicitDefEqProofs only [go_sem, ↓reduceIte, Nat.reduceEqDiff, Nat.reduceAdd, Nat.reduceMul, Nat.reduceLT, Nat.reduceLeDiff, reduceCtorEq, Int.toNat_natCast]; done) | (simp -implicitDefEqProofs only [go_sem, ↓reduceIte, Nat.reduceEqDiff, Nat.reduceAdd, Nat.reduceMul, Nat.reduceLT, Nat.reduceLeDiff, reduceCtorEq, Int.toNat_natCast]; rfl) | rfl)) rfl, cutH_same (Nat.add_lt_add_left (by decide) _) (by (first | (simp -implicitDefEqProofs only [go_sem, ↓reduceIte, Nat.reduceEqDiff, Nat.reduceAdd, Nat.reduceMul, Nat.reduceLT, Nat.reduceLeDiff, reduceCtorEq, Int.toNat_natCast]; done) | (simp -implicitDefEqProofs only [go_sem, ↓reduceIte, Nat.reduceEqDiff, Nat.reduceAdd, Nat.reduceMul, Nat.reduceLT, Nat.reduceLeDiff, reduceCtorEq, Int.toNat_natCast]; rfl) | rfl)) (lowCs_app (lowCs_p _ _) (lowCs_junk _ _)), cutH_outer (Nat.le_add_right _ _) ((fun id (hid : id < b) => by simp -implicitDefEqProofs only [go_sem, ↓reduceIte, Nat.reduceEqDiff, Nat.reduceAdd, Nat.reduceMul, Nat.reduceLT, Nat.reduceLeDiff, reduceCtorEq, Int.toNat_natCast, show ¬ id = b by omega, show ¬ id = b + 1 by omega, show ¬ id = b + 2 by omega, show ¬ id = b + 3 by omega, show ¬ id = b + 4 by omega, ho id hid])) hlow,
        by simp -implicitDefEqProofs only [go_sem, ↓reduceIte, Nat.reduceEqDiff, Nat.reduceAdd, Nat.reduceMul, Nat.reduceLT, Nat.reduceLeDiff, reduceCtorEq, Int.toNat_natCast, e0], by simp -implicitDefEqProofs only [go_sem, ↓reduceIte, Nat.reduceEqDiff, Nat.reduceAdd, Nat.reduceMul, Nat.reduceLT, Nat.reduceLeDiff, reduceCtorEq, Int.toNat_natCast, e5], by simp -implicitDefEqProofs only [go_sem, ↓reduceIte, Nat.reduceEqDiff, Nat.reduceAdd, Nat.reduceMul, Nat.reduceLT, Nat.reduceLeDiff, reduceCtorEq, Int.toNat_natCast, e6]; exact cutV_ptr (Nat.lt_add_of_pos_right (by decide)), by simp -implicitDefEqProofs only [go_sem, ↓reduceIte, Nat.reduceEqDiff, Nat.reduceAdd, Nat.reduceMul, Nat.reduceLT, Nat.reduceLeDiff, reduceCtorEq, Int.toNat_natCast]; exact cutV_win (Nat.add_lt_add_left (by decide) _), by simp -implicitDefEqProofs only [go_sem, ↓reduceIte, Nat.reduceEqDiff, Nat.reduceAdd, Nat.reduceMul, Nat.reduceLT, Nat.reduceLeDiff, reduceCtorEq, Int.toNat_natCast, e44], by simp -implicitDefEqProofs only [go_sem, ↓reduceIte, Nat.reduceEqDiff, Nat.reduceAdd, Nat.reduceMul, Nat.reduceLT, Nat.reduceLeDiff, reduceCtorEq, Int.toNat_natCast, e45], by simp -implicitDefEqProofs only [go_sem, ↓reduceIte, Nat.reduceEqDiff, Nat.reduceAdd, Nat.reduceMul, Nat.reduceLT, Nat.reduceLeDiff, reduceCtorEq, Int.toNat_natCast, e46]⟩
  clear hb hb1 ho e0 e5 e6 e8 e10 e44 e45 e46 q1 q2 q3 q4 q5 hS hpos
  clear x l T cap ver t h2
  rintro ⟨t, h2, m⟩ ⟨ver, cap, T, l, x, q1, q2, q3, q4, q5, hS, hb, hb1, ho, e0, e5, e6, e8, e44, e45, e46⟩ hm
  simp only at hm hb hb1 ho e0 e5 e6 e8 e44 e45 e46
  subst hm
  have hsz0 : 0 ≤ size := by have := chk_iff.1 hS.1; rw [hS.2.1] at this; exact this.1
  obtain ⟨sz, hsz⟩ : ∃ sz : Nat, size = (sz : Int) := ⟨size.toNat, by omega⟩
  refine AWP.seqReg (by kernel_rfl) (fun E K hE hK => ?_); simp -implicitDefEqProofs only [go_sem, ↓reduceIte, Nat.reduceEqDiff, Nat.reduceAdd, Nat.reduceMul, Nat.reduceLT, Nat.reduceLeDiff, reduceCtorEq, Int.toNat_natCast, e0, hsz]
  have hsz60 : sz ≤ 60 := by omega
  refine MkR.of ?_
  refine MkK.make (e := 3) (sz := 1) (bytes := 8) ty_slE_36 ty_tsz_3 ty_tzero_3 rfl ty_tby_3 (Nat.le_refl _) (by omega) (by omega) ?_
  rw [show repl ([Value.int .i64 0].map fun v => Cell.p (.v v)) sz = cellsI (List.replicate sz (0 : Int)) from cellsI_repl sz]
  simp -implicitDefEqProofs only [go_sem, ↓reduceIte, Nat.reduceEqDiff, Nat.reduceAdd, Nat.reduceMul, Nat.reduceLT, Nat.reduceLeDiff, reduceCtorEq, Int.toNat_natCast]
  refine hK _ _ _ ?_; clear hE hK K E
  refine AWP.seq ?_
  refine AWP.known (fun hnew => ?_)
  have hnew3 := hnew (b + 3) (Nat.le_refl _)
  refine AWP.seqRegD [114] [.one .junk] [] mixed (by kernel_rfl) (by kernel_rfl) (fun K hK => .inl ?_) (by kernel_rfl); simp -implicitDefEqProofs only [go_sem, ↓reduceIte, Nat.reduceEqDiff, Nat.reduceAdd, Nat.reduceMul, Nat.reduceLT, Nat.reduceLeDiff, reduceCtorEq, Int.toNat_natCast, e6, e8, hb, encX]
  have hel : (l.map encE).length = l.length := List.length_map _
  refine BiD.of ?_
  refine BiK.append_nil (e := 33) (sz := 2) (bytes := 16) (m := l.length) ty_slE_24 ty_tsz_33 ty_tzero_33 rfl ty_tby_33 ty_isIntT_24
    (srcA_row (sz := 2) (m := l.length) (es := l.map encE) (T := T) 0 (by simp -implicitDefEqProofs only [go_sem, ↓reduceIte, Nat.reduceEqDiff, Nat.reduceAdd, Nat.reduceMul, Nat.reduceLT, Nat.reduceLeDiff, reduceCtorEq, Int.toNat_natCast, hb1]) (okEs_ext l) (by omega) (.inl rfl)) (okEs_flat (((okEs_ext l).drop 0).take _) _) (by omega) (by decide) (by omega) (fun cap1 r1 g1 g2 => ?_)
  refine ⟨(Sub.refl _).new hnew3, ?_⟩
  rw [show ((l.map encE).drop 0).take l.length = l.map encE by rw [List.drop_zero, List.take_of_length_le (by rw [hel]; exact Nat.le_refl _)]]
  have hbl : ((l.map encE).flatten.map Cell.p ++ List.replicate r1 Cell.junk).length = cap1 * 2 := by
    rw [List.length_append, List.length_map, okEs_len (okEs_ext _), List.length_map, List.length_replicate]; omega
  generalize hbk : (l.map encE).flatten.map Cell.p ++ List.replicate r1 Cell.junk = bk at hbl ⊢
  simp -implicitDefEqProofs only [go_sem, ↓reduceIte, Nat.reduceEqDiff, Nat.reduceAdd, Nat.reduceMul, Nat.reduceLT, Nat.reduceLeDiff, reduceCtorEq, Int.toNat_natCast, e6, hb, encX]
  refine BiD.of ?_
  refine BiK.append_own (e := 33) (sz := 2) (bytes := 16) (m := x.free.length) (xs := (x.free.map encE).flatten.map .p) (blk := ⟨1, bk⟩) ty_slE_24 ty_tsz_33 ty_tzero_33 rfl ty_tby_33 ty_isIntT_24 (upd_same _ _ _) rfl hbl
    (by simp [srcA]) (okEs_flat (okEs_ext x.free) _) (by omega) (by decide) (by omega) (fun cap2 r2 g3 g4 => ?_)
  rw [upd_upd]
  refine ⟨(Sub.refl _).new hnew3, ?_⟩
  subst hbk
  have hrow := row_push (sz := 2) (ver := 1 + 1) (len := l.length) (es := l.map encE) (fs := x.free.map encE) (T := List.replicate r1 .junk) (okEs_ext _) (by rw [List.length_map]) r2
  rw [← List.map_append] at hrow
  have hll : (l ++ x.free).length = l.length + x.free.length := List.length_append
  have hwi := hS.within
  have hon := fun p h0 h1 => hS.once (p := p) h0 h1
  have hln : (l ++ x.free).length ≤ 130 := by omega
  rw [hrow, ← hll]
  generalize l ++ x.free = all at hwi hon hll hln ⊢
  simp -implicitDefEqProofs only [go_sem, ↓reduceIte, Nat.reduceEqDiff, Nat.reduceAdd, Nat.reduceMul, Nat.reduceLT, Nat.reduceLeDiff, reduceCtorEq, Int.toNat_natCast]
  refine ⟨(Sub.refl _).new hnew3, ?_⟩
  refine hK _ _ _ ?_; clear hK K
  refine AWP.frz 113 (cap := cap2) (len := all.length) 2 (all.map encE) (by (first | (simp -implicitDefEqProofs only [go_sem, ↓reduceIte, Nat.reduceEqDiff, Nat.reduceAdd, Nat.reduceMul, Nat.reduceLT, Nat.reduceLeDiff, reduceCtorEq, Int.toNat_natCast]; done) | (simp -implicitDefEqProofs only [go_sem, ↓reduceIte, Nat.reduceEqDiff, Nat.reduceAdd, Nat.reduceMul, Nat.reduceLT, Nat.reduceLeDiff, reduceCtorEq, Int.toNat_natCast]; rfl) | rfl)) (by (first | (simp -implicitDefEqProofs only [go_sem, ↓reduceIte, Nat.reduceEqDiff, Nat.reduceAdd, Nat.reduceMul, Nat.reduceLT, Nat.reduceLeDiff, reduceCtorEq, Int.toNat_natCast]; done) | (simp -implicitDefEqProofs only [go_sem, ↓reduceIte, Nat.reduceEqDiff, Nat.reduceAdd, Nat.reduceMul, Nat.reduceLT, Nat.reduceLeDiff, reduceCtorEq, Int.toNat_natCast]; rfl) | rfl)) rfl (by rw [List.length_map]) (okEs_ext all).len (row_cells (okEs_ext all) _ _) ?_
  rw [owF_zero]
  refine AWP.thnM (fun st => st.n = 4 ∧ scO size ns hh b i x l ver cap T sz all all.length st) ?_ ?_
  · refine AWP.block ?_
    refine AWP.loopUp 4 all.length (scO size ns hh b i x l ver cap T sz all) 0 (Nat.zero_le _) rfl ⟨⟨by (first | (simp -implicitDefEqProofs only [go_sem, ↓reduceIte, Nat.reduceEqDiff, Nat.reduceAdd, Nat.reduceMul, Nat.reduceLT, Nat.reduceLeDiff, reduceCtorEq, Int.toNat_natCast, hb, delH_lit]; done) | (simp -implicitDefEqProofs only [go_sem, ↓reduceIte, Nat.reduceEqDiff, Nat.reduceAdd, Nat.reduceMul, Nat.reduceLT, Nat.reduceLeDiff, reduceCtorEq, Int.toNat_natCast, hb, delH_lit]; rfl) | rfl), by (first | (simp -implicitDefEqProofs only [go_sem, ↓reduceIte, Nat.reduceEqDiff, Nat.reduceAdd, Nat.reduceMul, Nat.reduceLT, Nat.reduceLeDiff, reduceCtorEq, Int.toNat_natCast, hb1, delH_lit]; done) | (simp -implicitDefEqProofs only [go_sem, ↓reduceIte, Nat.reduceEqDiff, Nat.reduceAdd, Nat.reduceMul, Nat.reduceLT, Nat.reduceLeDiff, reduceCtorEq, Int.toNat_natCast, hb1, delH_lit]; rfl) | rfl), (fun id hid => by have hid' : id < b := hid; simp -implicitDefEqProofs only [go_sem, ↓reduceIte, Nat.reduceEqDiff, Nat.reduceAdd, Nat.reduceMul, Nat.reduceLT, Nat.reduceLeDiff, reduceCtorEq, Int.toNat_natCast, delH_lit, show ¬ id = b + 2 by omega, show ¬ id = b + 3 by omega, ho id hid']), by simp -implicitDefEqProofs only [go_sem, ↓reduceIte, Nat.reduceEqDiff, Nat.reduceAdd, Nat.reduceMul, Nat.reduceLT, Nat.reduceLeDiff, reduceCtorEq, Int.toNat_natCast, e0, hsz], by simp -implicitDefEqProofs only [go_sem, ↓reduceIte, Nat.reduceEqDiff, Nat.reduceAdd, Nat.reduceMul, Nat.reduceLT, Nat.reduceLeDiff, reduceCtorEq, Int.toNat_natCast, e5], by simp -implicitDefEqProofs only [go_sem, ↓reduceIte, Nat.reduceEqDiff, Nat.reduceAdd, Nat.reduceMul, Nat.reduceLT, Nat.reduceLeDiff, reduceCtorEq, Int.toNat_natCast, e6], by simp -implicitDefEqProofs only [go_sem, ↓reduceIte, Nat.reduceEqDiff, Nat.reduceAdd, Nat.reduceMul, Nat.reduceLT, Nat.reduceLeDiff, reduceCtorEq, Int.toNat_natCast, e8], by simp -implicitDefEqProofs only [go_sem, ↓reduceIte, Nat.reduceEqDiff, Nat.reduceAdd, Nat.reduceMul, Nat.reduceLT, Nat.reduceLeDiff, reduceCtorEq, Int.toNat_natCast, e44], by simp -implicitDefEqProofs only [go_sem, ↓reduceIte, Nat.reduceEqDiff, Nat.reduceAdd, Nat.reduceMul, Nat.reduceLT, Nat.reduceLeDiff, reduceCtorEq, Int.toNat_natCast, e45], by simp -implicitDefEqProofs only [go_sem, ↓reduceIte, Nat.reduceEqDiff, Nat.reduceAdd, Nat.reduceMul, Nat.reduceLT, Nat.reduceLeDiff, reduceCtorEq, Int.toNat_natCast, e46]⟩,
      by (first | (simp -implicitDefEqProofs only [go_sem, ↓reduceIte, Nat.reduceEqDiff, Nat.reduceAdd, Nat.reduceMul, Nat.reduceLT, Nat.reduceLeDiff, reduceCtorEq, Int.toNat_natCast, delH_lit]; done) | (simp -implicitDefEqProofs only [go_sem, ↓reduceIte, Nat.reduceEqDiff, Nat.reduceAdd, Nat.reduceMul, Nat.reduceLT, Nat.reduceLeDiff, reduceCtorEq, Int.toNat_natCast, delH_lit]; rfl) | rfl), by (first | (simp -implicitDefEqProofs only [go_sem, ↓reduceIte, Nat.reduceEqDiff, Nat.reduceAdd, Nat.reduceMul, Nat.reduceLT, Nat.reduceLeDiff, reduceCtorEq, Int.toNat_natCast]; done) | (simp -implicitDefEqProofs only [go_sem, ↓reduceIte, Nat.reduceEqDiff, Nat.reduceAdd, Nat.reduceMul, Nat.reduceLT, Nat.reduceLeDiff, reduceCtorEq, Int.toNat_natCast]; rfl) | rfl), by (first | (simp -implicitDefEqProofs only [go_sem, ↓reduceIte, Nat.reduceEqDiff, Nat.reduceAdd, Nat.reduceMul, Nat.reduceLT, Nat.reduceLeDiff, reduceCtorEq, Int.toNat_natCast]; done) | (simp -implicitDefEqProofs only [go_sem, ↓reduceIte, Nat.reduceEqDiff, Nat.reduceAdd, Nat.reduceMul, Nat.reduceLT, Nat.reduceLeDiff, reduceCtorEq, Int.toNat_natCast]; rfl) | rfl), by (first | (simp -implicitDefEqProofs only [go_sem, ↓reduceIte, Nat.reduceEqDiff, Nat.reduceAdd, Nat.reduceMul, Nat.reduceLT, Nat.reduceLeDiff, reduceCtorEq, Int.toNat_natCast, List.length_map]; done) | (simp -implicitDefEqProofs only [go_sem, ↓reduceIte, Nat.reduceEqDiff, Nat.reduceAdd, Nat.reduceMul, Nat.reduceLT, Nat.reduceLeDiff, reduceCtorEq, Int.toNat_natCast, List.length_map]; rfl) | rfl), by (first | (simp -implicitDefEqProofs only [go_sem, ↓reduceIte, Nat.reduceEqDiff, Nat.reduceAdd, Nat.reduceMul, Nat.reduceLT, Nat.reduceLeDiff, reduceCtorEq, Int.toNat_natCast]; done) | (simp -implicitDefEqProofs only [go_sem, ↓reduceIte, Nat.reduceEqDiff, Nat.reduceAdd, Nat.reduceMul, Nat.reduceLT, Nat.reduceLeDiff, reduceCtorEq, Int.toNat_natCast]; rfl) | rfl)⟩ ?_
    clear hb hb1 ho e0 e5 e6 e8 e44 e45 e46 hnew hnew3 hrow
    clear t h2
    rintro q ⟨t, h2, m⟩ hq ⟨⟨hb, hb1, ho, e0, e5, e6, e8, e44, e45, e46⟩, hb2, e17, e113, e114, e115⟩ hm
    simp only at hb hb1 ho e0 e5 e6 e8 e44 e45 e46 hb2 e17 e113 e114 e115 hm
    subst hm
    refine AWP.seqReg (by kernel_rfl) (fun E K hE hK => ?_); simp -implicitDefEqProofs only [go_sem, ↓reduceIte, Nat.reduceEqDiff, Nat.reduceAdd, Nat.reduceMul, Nat.reduceLT, Nat.reduceLeDiff, reduceCtorEq, Int.toNat_natCast, e114, e115]; refine hK _ _ _ ?_; clear hE hK K E
    by_cases hlt2 : (q : Int) < all.length
    case neg =>
      refine AWP.seq ?_
      refine AWP.ifF (by simp -implicitDefEqProofs only [go_sem, ↓reduceIte, Nat.reduceEqDiff, Nat.reduceAdd, Nat.reduceMul, Nat.reduceLT, Nat.reduceLeDiff, reduceCtorEq, Int.toNat_natCast, hlt2]) ?_
      refine AWP.exit ?_
      simp -implicitDefEqProofs only [go_sem, ↓reduceIte, Nat.reduceEqDiff, Nat.reduceAdd, Nat.reduceMul, Nat.reduceLT, Nat.reduceLeDiff, reduceCtorEq, Int.toNat_natCast]
      have hqa : q = all.length := by omega
      subst hqa
      exact ⟨⟨hb, hb1, ho, by simp -implicitDefEqProofs only [go_sem, ↓reduceIte, Nat.reduceEqDiff, Nat.reduceAdd, Nat.reduceMul, Nat.reduceLT, Nat.reduceLeDiff, reduceCtorEq, Int.toNat_natCast, e0], by simp -implicitDefEqProofs only [go_sem, ↓reduceIte, Nat.reduceEqDiff, Nat.reduceAdd, Nat.reduceMul, Nat.reduceLT, Nat.reduceLeDiff, reduceCtorEq, Int.toNat_natCast, e5], by simp -implicitDefEqProofs only [go_sem, ↓reduceIte, Nat.reduceEqDiff, Nat.reduceAdd, Nat.reduceMul, Nat.reduceLT, Nat.reduceLeDiff, reduceCtorEq, Int.toNat_natCast, e6], by simp -implicitDefEqProofs only [go_sem, ↓reduceIte, Nat.reduceEqDiff, Nat.reduceAdd, Nat.reduceMul, Nat.reduceLT, Nat.reduceLeDiff, reduceCtorEq, Int.toNat_natCast, e8], by simp -implicitDefEqProofs only [go_sem, ↓reduceIte, Nat.reduceEqDiff, Nat.reduceAdd, Nat.reduceMul, Nat.reduceLT, Nat.reduceLeDiff, reduceCtorEq, Int.toNat_natCast, e44], by simp -implicitDefEqProofs only [go_sem, ↓reduceIte, Nat.reduceEqDiff, Nat.reduceAdd, Nat.reduceMul, Nat.reduceLT, Nat.reduceLeDiff, reduceCtorEq, Int.toNat_natCast, e45], by simp -implicitDefEqProofs only [go_sem, ↓reduceIte, Nat.reduceEqDiff, Nat.reduceAdd, Nat.reduceMul, Nat.reduceLT, Nat.reduceLeDiff, reduceCtorEq, Int.toNat_natCast, e46]⟩, hb2, by simp -implicitDefEqProofs only [go_sem, ↓reduceIte, Nat.reduceEqDiff, Nat.reduceAdd, Nat.reduceMul, Nat.reduceLT, Nat.reduceLeDiff, reduceCtorEq, Int.toNat_natCast, e17], by simp -implicitDefEqProofs only [go_sem, ↓reduceIte, Nat.reduceEqDiff, Nat.reduceAdd, Nat.reduceMul, Nat.reduceLT, Nat.reduceLeDiff, reduceCtorEq, Int.toNat_natCast, e113], by simp -implicitDefEqProofs only [go_sem, ↓reduceIte, Nat.reduceEqDiff, Nat.reduceAdd, Nat.reduceMul, Nat.reduceLT, Nat.reduceLeDiff, reduceCtorEq, Int.toNat_natCast, e114], by simp -implicitDefEqProofs only [go_sem, ↓reduceIte, Nat.reduceEqDiff, Nat.reduceAdd, Nat.reduceMul, Nat.reduceLT, Nat.reduceLeDiff, reduceCtorEq, Int.toNat_natCast, e115]⟩
    have hq2 : q < all.length := by omega
    have hgq := getD_map_encE all q hq2
    have hsw := hwi all[q] (List.getElem_mem hq2)
    have htq : all.take (q + 1) = all.take q ++ [all[q]] := by rw [List.take_add_one, List.getElem?_eq_getElem hq2]; rfl
    generalize all[q] = s at hgq hsw htq
    refine AWP.seq ?_
    refine AWP.ifT (by simp -implicitDefEqProofs only [go_sem, ↓reduceIte, Nat.reduceEqDiff, Nat.reduceAdd, Nat.reduceMul, Nat.reduceLT, Nat.reduceLeDiff, reduceCtorEq, Int.toNat_natCast, hlt2]) ?_
    refine AWP.skip ?_
    simp -implicitDefEqProofs only [go_sem, ↓reduceIte, Nat.reduceEqDiff, Nat.reduceAdd, Nat.reduceMul, Nat.reduceLT, Nat.reduceLeDiff, reduceCtorEq, Int.toNat_natCast]
    refine AWP.seq ?_
    refine AWP.block ?_
    refine AWP.seqReg (by kernel_rfl) (fun E K hE hK => ?_); simp -implicitDefEqProofs only [go_sem, ↓reduceIte, Nat.reduceEqDiff, Nat.reduceAdd, Nat.reduceMul, Nat.reduceLT, Nat.reduceLeDiff, reduceCtorEq, Int.toNat_natCast, e113, e115, hgq, encE, List.length_map]
    refine ⟨⟨by omega, by omega⟩, ?_⟩
    refine hK _ _ _ ?_; clear hE hK K E
    refine AWP.seqReg (by kernel_rfl) (fun E K hE hK => ?_); simp -implicitDefEqProofs only [go_sem, ↓reduceIte, Nat.reduceEqDiff, Nat.reduceAdd, Nat.reduceMul, Nat.reduceLT, Nat.reduceLeDiff, reduceCtorEq, Int.toNat_natCast]; refine hK _ _ _ ?_; clear hE hK K E
    obtain ⟨sl, hsl⟩ : ∃ sl : Nat, s.len = (sl : Int) := ⟨s.len.toNat, by omega⟩
    refine AWP.block ?_
    have hown0 : (owF (fun p => cnt (all.take q) p) sz) = owF (fun p => cnt (all.take q) p + (if s.at_ ≤ p ∧ p < s.at_ + ((0 : Nat) : Int) then 1 else 0)) sz := owF_congr (fun p _ => by
      show cnt (all.take q) p = cnt (all.take q) p + _
      rw [if_neg (by omega)]; rfl)
    have hown1 : owF (fun p => cnt (all.take q) p + (if s.at_ ≤ p ∧ p < s.at_ + (sl : Int) then 1 else 0)) sz = owF (fun p => cnt (all.take (q + 1)) p) sz := owF_congr (fun p _ => by rw [htq, cnt_app, cnt_cons, cnt_nil, ← hsl]; rfl)
    have hcb : ∀ p, cnt (all.take q) p ≤ 130 := fun p => Nat.le_trans (cnt_len _ _) (by rw [List.length_take]; omega)
    rw [hown0] at hb2
    refine AWP.loopUp 5 sl (scP size ns hh b i x l ver cap T sz all q s) 0 (Nat.zero_le _) rfl ⟨⟨by (first | (simp -implicitDefEqProofs only [go_sem, ↓reduceIte, Nat.reduceEqDiff, Nat.reduceAdd, Nat.reduceMul, Nat.reduceLT, Nat.reduceLeDiff, reduceCtorEq, Int.toNat_natCast, hb]; done) | (simp -implicitDefEqProofs only [go_sem, ↓reduceIte, Nat.reduceEqDiff, Nat.reduceAdd, Nat.reduceMul, Nat.reduceLT, Nat.reduceLeDiff, reduceCtorEq, Int.toNat_natCast, hb]; rfl) | rfl), by (first | (simp -implicitDefEqProofs only [go_sem, ↓reduceIte, Nat.reduceEqDiff, Nat.reduceAdd, Nat.reduceMul, Nat.reduceLT, Nat.reduceLeDiff, reduceCtorEq, Int.toNat_natCast, hb1]; done) | (simp -implicitDefEqProofs only [go_sem, ↓reduceIte, Nat.reduceEqDiff, Nat.reduceAdd, Nat.reduceMul, Nat.reduceLT, Nat.reduceLeDiff, reduceCtorEq, Int.toNat_natCast, hb1]; rfl) | rfl), (fun id (hid : id < b) => by simp -implicitDefEqProofs only [go_sem, ↓reduceIte, Nat.reduceEqDiff, Nat.reduceAdd, Nat.reduceMul, Nat.reduceLT, Nat.reduceLeDiff, reduceCtorEq, Int.toNat_natCast, show ¬ id = b by omega, show ¬ id = b + 1 by omega, show ¬ id = b + 2 by omega, show ¬ id = b + 3 by omega, show ¬ id = b + 4 by omega, ho id hid]), by simp -implicitDefEqProofs only [go_sem, ↓reduceIte, Nat.reduceEqDiff, Nat.reduceAdd, Nat.reduceMul, Nat.reduceLT, Nat.reduceLeDiff, reduceCtorEq, Int.toNat_natCast, e0], by simp -implicitDefEqProofs only [go_sem, ↓reduceIte, Nat.reduceEqDiff, Nat.reduceAdd, Nat.reduceMul, Nat.reduceLT, Nat.reduceLeDiff, reduceCtorEq, Int.toNat_natCast, e5], by simp -implicitDefEqProofs only [go_sem, ↓reduceIte, Nat.reduceEqDiff, Nat.reduceAdd, Nat.reduceMul, Nat.reduceLT, Nat.reduceLeDiff, reduceCtorEq, Int.toNat_natCast, e6], by simp -implicitDefEqProofs only [go_sem, ↓reduceIte, Nat.reduceEqDiff, Nat.reduceAdd, Nat.reduceMul, Nat.reduceLT, Nat.reduceLeDiff, reduceCtorEq, Int.toNat_natCast, e8], by simp -implicitDefEqProofs only [go_sem, ↓reduceIte, Nat.reduceEqDiff, Nat.reduceAdd, Nat.reduceMul, Nat.reduceLT, Nat.reduceLeDiff, reduceCtorEq, Int.toNat_natCast, e44], by simp -implicitDefEqProofs only [go_sem, ↓reduceIte, Nat.reduceEqDiff, Nat.reduceAdd, Nat.reduceMul, Nat.reduceLT, Nat.reduceLeDiff, reduceCtorEq, Int.toNat_natCast, e45], by simp -implicitDefEqProofs only [go_sem, ↓reduceIte, Nat.reduceEqDiff, Nat.reduceAdd, Nat.reduceMul, Nat.reduceLT, Nat.reduceLeDiff, reduceCtorEq, Int.toNat_natCast, e46]⟩,
      by (first | (simp -implicitDefEqProofs only [go_sem, ↓reduceIte, Nat.reduceEqDiff, Nat.reduceAdd, Nat.reduceMul, Nat.reduceLT, Nat.reduceLeDiff, reduceCtorEq, Int.toNat_natCast, hb2]; done) | (simp -implicitDefEqProofs only [go_sem, ↓reduceIte, Nat.reduceEqDiff, Nat.reduceAdd, Nat.reduceMul, Nat.reduceLT, Nat.reduceLeDiff, reduceCtorEq, Int.toNat_natCast, hb2]; rfl) | rfl), by (first | (simp -implicitDefEqProofs only [go_sem, ↓reduceIte, Nat.reduceEqDiff, Nat.reduceAdd, Nat.reduceMul, Nat.reduceLT, Nat.reduceLeDiff, reduceCtorEq, Int.toNat_natCast]; done) | (simp -implicitDefEqProofs only [go_sem, ↓reduceIte, Nat.reduceEqDiff, Nat.reduceAdd, Nat.reduceMul, Nat.reduceLT, Nat.reduceLeDiff, reduceCtorEq, Int.toNat_natCast]; rfl) | rfl), by simp -implicitDefEqProofs only [go_sem, ↓reduceIte, Nat.reduceEqDiff, Nat.reduceAdd, Nat.reduceMul, Nat.reduceLT, Nat.reduceLeDiff, reduceCtorEq, Int.toNat_natCast, e17], by simp -implicitDefEqProofs only [go_sem, ↓reduceIte, Nat.reduceEqDiff, Nat.reduceAdd, Nat.reduceMul, Nat.reduceLT, Nat.reduceLeDiff, reduceCtorEq, Int.toNat_natCast], by simp -implicitDefEqProofs only [go_sem, ↓reduceIte, Nat.reduceEqDiff, Nat.reduceAdd, Nat.reduceMul, Nat.reduceLT, Nat.reduceLeDiff, reduceCtorEq, Int.toNat_natCast, e113], by simp -implicitDefEqProofs only [go_sem, ↓reduceIte, Nat.reduceEqDiff, Nat.reduceAdd, Nat.reduceMul, Nat.reduceLT, Nat.reduceLeDiff, reduceCtorEq, Int.toNat_natCast, e114], by simp -implicitDefEqProofs only [go_sem, ↓reduceIte, Nat.reduceEqDiff, Nat.reduceAdd, Nat.reduceMul, Nat.reduceLT, Nat.reduceLeDiff, reduceCtorEq, Int.toNat_natCast, e115], by simp -implicitDefEqProofs only [go_sem, ↓reduceIte, Nat.reduceEqDiff, Nat.reduceAdd, Nat.reduceMul, Nat.reduceLT, Nat.reduceLeDiff, reduceCtorEq, Int.toNat_natCast], by (first | (simp -implicitDefEqProofs only [go_sem, ↓reduceIte, Nat.reduceEqDiff, Nat.reduceAdd, Nat.reduceMul, Nat.reduceLT, Nat.reduceLeDiff, reduceCtorEq, Int.toNat_natCast]; done) | (simp -implicitDefEqProofs only [go_sem, ↓reduceIte, Nat.reduceEqDiff, Nat.reduceAdd, Nat.reduceMul, Nat.reduceLT, Nat.reduceLeDiff, reduceCtorEq, Int.toNat_natCast]; rfl) | rfl)⟩ ?_
    clear hb hb1 ho e0 e5 e6 e8 e44 e45 e46 hb2 e17 e113 e114 e115
    clear t h2
    rintro j ⟨t, h2, m⟩ hj ⟨⟨hb, hb1, ho, e0, e5, e6, e8, e44, e45, e46⟩, hb2, hb4, e17, e19, e113, e114, e115, e120, e121⟩ hm
    simp only at hb hb1 ho e0 e5 e6 e8 e44 e45 e46 hb2 hb4 e17 e19 e113 e114 e115 e120 e121 hm
    subst hm
    refine AWP.seqReg (by kernel_rfl) (fun E K hE hK => ?_); simp -implicitDefEqProofs only [go_sem, ↓reduceIte, Nat.reduceEqDiff, Nat.reduceAdd, Nat.reduceMul, Nat.reduceLT, Nat.reduceLeDiff, reduceCtorEq, Int.toNat_natCast, e120, e121, hsl]; refine hK _ _ _ ?_; clear hE hK K E
    by_cases hlt3 : (j : Int) < (sl : Int)
    case neg =>
      have hjs : j = sl := by omega
      subst hjs
      refine AWP.seq ?_
      refine AWP.ifF (by simp -implicitDefEqProofs only [go_sem, ↓reduceIte, Nat.reduceEqDiff, Nat.reduceAdd, Nat.reduceMul, Nat.reduceLT, Nat.reduceLeDiff, reduceCtorEq, Int.toNat_natCast, hlt3]) ?_
      refine AWP.exit ?_
      simp -implicitDefEqProofs only [go_sem, ↓reduceIte, Nat.reduceEqDiff, Nat.reduceAdd, Nat.reduceMul, Nat.reduceLT, Nat.reduceLeDiff, reduceCtorEq, Int.toNat_natCast]
      refine AWP.reg (by kernel_rfl) (fun E K hE hK => ?_); simp -implicitDefEqProofs only [go_sem, ↓reduceIte, Nat.reduceEqDiff, Nat.reduceAdd, Nat.reduceMul, Nat.reduceLT, Nat.reduceLeDiff, reduceCtorEq, Int.toNat_natCast, e115]
      refine hK _ _ _ ?_; clear hE hK K E
      rw [hown1] at hb2
      refine ⟨(by decide : 4 ≤ 5), hq2, ⟨cutH_same (Nat.lt_add_of_pos_right (by decide)) (by (first | (simp -implicitDefEqProofs only [go_sem, ↓reduceIte, Nat.reduceEqDiff, Nat.reduceAdd, Nat.reduceMul, Nat.reduceLT, Nat.reduceLeDiff, reduceCtorEq, Int.toNat_natCast, hb]; done) | (simp -implicitDefEqProofs only [go_sem, ↓reduceIte, Nat.reduceEqDiff, Nat.reduceAdd, Nat.reduceMul, Nat.reduceLT, Nat.reduceLeDiff, reduceCtorEq, Int.toNat_natCast, hb]; rfl) | rfl)) rfl, cutH_same (Nat.add_lt_add_left (by decide) _) (by (first | (simp -implicitDefEqProofs only [go_sem, ↓reduceIte, Nat.reduceEqDiff, Nat.reduceAdd, Nat.reduceMul, Nat.reduceLT, Nat.reduceLeDiff, reduceCtorEq, Int.toNat_natCast, hb1]; done) | (simp -implicitDefEqProofs only [go_sem, ↓reduceIte, Nat.reduceEqDiff, Nat.reduceAdd, Nat.reduceMul, Nat.reduceLT, Nat.reduceLeDiff, reduceCtorEq, Int.toNat_natCast, hb1]; rfl) | rfl)) (lowCs_app (lowCs_p _ _) (lowCs_mono (Nat.zero_le _) q3)), cutH_outer (Nat.le_add_right _ _) ho hlow, by simp -implicitDefEqProofs only [go_sem, ↓reduceIte, Nat.reduceEqDiff, Nat.reduceAdd, Nat.reduceMul, Nat.reduceLT, Nat.reduceLeDiff, reduceCtorEq, Int.toNat_natCast, e0], by simp -implicitDefEqProofs only [go_sem, ↓reduceIte, Nat.reduceEqDiff, Nat.reduceAdd, Nat.reduceMul, Nat.reduceLT, Nat.reduceLeDiff, reduceCtorEq, Int.toNat_natCast, e5], by simp -implicitDefEqProofs only [go_sem, ↓reduceIte, Nat.reduceEqDiff, Nat.reduceAdd, Nat.reduceMul, Nat.reduceLT, Nat.reduceLeDiff, reduceCtorEq, Int.toNat_natCast, e6]; exact cutV_ptr (Nat.lt_add_of_pos_right (by decide)), by simp -implicitDefEqProofs only [go_sem, ↓reduceIte, Nat.reduceEqDiff, Nat.reduceAdd, Nat.reduceMul, Nat.reduceLT, Nat.reduceLeDiff, reduceCtorEq, Int.toNat_natCast, e8]; exact cutV_win (Nat.add_lt_add_left (by decide) _), by simp -implicitDefEqProofs only [go_sem, ↓reduceIte, Nat.reduceEqDiff, Nat.reduceAdd, Nat.reduceMul, Nat.reduceLT, Nat.reduceLeDiff, reduceCtorEq, Int.toNat_natCast, e44], by simp -implicitDefEqProofs only [go_sem, ↓reduceIte, Nat.reduceEqDiff, Nat.reduceAdd, Nat.reduceMul, Nat.reduceLT, Nat.reduceLeDiff, reduceCtorEq, Int.toNat_natCast, e45], by simp -implicitDefEqProofs only [go_sem, ↓reduceIte, Nat.reduceEqDiff, Nat.reduceAdd, Nat.reduceMul, Nat.reduceLT, Nat.reduceLeDiff, reduceCtorEq, Int.toNat_natCast, e46]⟩, cutH_same (Nat.add_lt_add_left (by decide) _) (by (first | (simp -implicitDefEqProofs only [go_sem, ↓reduceIte, Nat.reduceEqDiff, Nat.reduceAdd, Nat.reduceMul, Nat.reduceLT, Nat.reduceLeDiff, reduceCtorEq, Int.toNat_natCast, hb2]; done) | (simp -implicitDefEqProofs only [go_sem, ↓reduceIte, Nat.reduceEqDiff, Nat.reduceAdd, Nat.reduceMul, Nat.reduceLT, Nat.reduceLeDiff, reduceCtorEq, Int.toNat_natCast, hb2]; rfl) | rfl)) (cellsI_low _ _), by simp -implicitDefEqProofs only [go_sem, ↓reduceIte, Nat.reduceEqDiff, Nat.reduceAdd, Nat.reduceMul, Nat.reduceLT, Nat.reduceLeDiff, reduceCtorEq, Int.toNat_natCast, e17]; exact cutV_win (Nat.add_lt_add_left (by decide) _), by simp -implicitDefEqProofs only [go_sem, ↓reduceIte, Nat.reduceEqDiff, Nat.reduceAdd, Nat.reduceMul, Nat.reduceLT, Nat.reduceLeDiff, reduceCtorEq, Int.toNat_natCast, e113], by simp -implicitDefEqProofs only [go_sem, ↓reduceIte, Nat.reduceEqDiff, Nat.reduceAdd, Nat.reduceMul, Nat.reduceLT, Nat.reduceLeDiff, reduceCtorEq, Int.toNat_natCast, e114], ?_⟩
      simp -implicitDefEqProofs only [go_sem, ↓reduceIte, Nat.reduceEqDiff, Nat.reduceAdd, Nat.reduceMul, Nat.reduceLT, Nat.reduceLeDiff, reduceCtorEq, Int.toNat_natCast]; rw [wrap_i64 (by omega) (by omega)]; rfl
    refine AWP.seq ?_
    refine AWP.ifT (by simp -implicitDefEqProofs only [go_sem, ↓reduceIte, Nat.reduceEqDiff, Nat.reduceAdd, Nat.reduceMul, Nat.reduceLT, Nat.reduceLeDiff, reduceCtorEq, Int.toNat_natCast, hlt3]) ?_
    refine AWP.skip ?_
    simp -implicitDefEqProofs only [go_sem, ↓reduceIte, Nat.reduceEqDiff, Nat.reduceAdd, Nat.reduceMul, Nat.reduceLT, Nat.reduceLeDiff, reduceCtorEq, Int.toNat_natCast]
    refine AWP.seq ?_
    refine AWP.block ?_
    refine AWP.seqReg (by kernel_rfl) (fun E K hE hK => ?_); simp -implicitDefEqProofs only [go_sem, ↓reduceIte, Nat.reduceEqDiff, Nat.reduceAdd, Nat.reduceMul, Nat.reduceLT, Nat.reduceLeDiff, reduceCtorEq, Int.toNat_natCast, e121]; refine hK _ _ _ ?_; clear hE hK K E
    refine AWP.seq ?_
    have ha0 : ¬ s.at_ < 0 := by omega
    have ha1 : IntKind.i64.wrap (s.at_ + (j : Int)) = s.at_ + (j : Int) := wrap_i64 (by omega) (by omega)
    have ha2 : ¬ size ≤ s.at_ + (j : Int) := by omega
    refine AWP.seqReg (by kernel_rfl) (fun E K hE hK => ?_); simp -implicitDefEqProofs only [go_sem, ↓reduceIte, Nat.reduceEqDiff, Nat.reduceAdd, Nat.reduceMul, Nat.reduceLT, Nat.reduceLeDiff, reduceCtorEq, Int.toNat_natCast, e0, e19, hb4, encE, ha0, ha1, ha2, decide_false]; refine hK _ _ _ ?_; clear hE hK K E
    refine AWP.ifF (by simp -implicitDefEqProofs only [go_sem, ↓reduceIte, Nat.reduceEqDiff, Nat.reduceAdd, Nat.reduceMul, Nat.reduceLT, Nat.reduceLeDiff, reduceCtorEq, Int.toNat_natCast, ha2]) ?_; refine AWP.skip ?_; simp -implicitDefEqProofs only [go_sem, ↓reduceIte, Nat.reduceEqDiff, Nat.reduceAdd, Nat.reduceMul, Nat.reduceLT, Nat.reduceLeDiff, reduceCtorEq, Int.toNat_natCast]
    obtain ⟨k, hk⟩ : ∃ k : Nat, s.at_ + (j : Int) = (k : Int) := ⟨(s.at_ + (j : Int)).toNat, by omega⟩
    have hkz : k < sz := by omega
    have hkw : IntKind.i64.wrap (k : Int) = (k : Int) := wrap_i64 (by omega) (by omega)
    have hG : (owF (fun p => cnt (all.take q) p + (if s.at_ ≤ p ∧ p < s.at_ + (j : Int) then 1 else 0)) sz).set k (((cnt (all.take q) k : Nat) : Int) + 1) = owF (fun p => cnt (all.take q) p + (if s.at_ ≤ p ∧ p < s.at_ + ((j + 1 : Nat) : Int) then 1 else 0)) sz := owF_set (by
        show ((cnt (all.take q) k + (if s.at_ ≤ (k : Int) ∧ (k : Int) < s.at_ + ((j + 1 : Nat) : Int) then 1 else 0) : Nat) : Int) = _
        rw [if_pos (by omega)]; omega) (fun p hp => by
        show cnt (all.take q) p + (if s.at_ ≤ (p : Int) ∧ (p : Int) < s.at_ + ((j + 1 : Nat) : Int) then 1 else 0) = cnt (all.take q) p + (if s.at_ ≤ (p : Int) ∧ (p : Int) < s.at_ + (j : Int) then 1 else 0)
        by_cases hc : s.at_ ≤ (p : Int) ∧ (p : Int) < s.at_ + (j : Int)
        · rw [if_pos hc, if_pos (by omega)]
        · rw [if_neg hc, if_neg (by omega)])
    have hFk : (owF (fun p => cnt (all.take q) p + (if s.at_ ≤ p ∧ p < s.at_ + (j : Int) then 1 else 0)) sz)[k]? = some ((cnt (all.take q) k : Nat) : Int) := by
      rw [owF_get _ hkz]
      show some ((cnt (all.take q) k + (if s.at_ ≤ (k : Int) ∧ (k : Int) < s.at_ + (j : Int) then 1 else 0) : Nat) : Int) = _
      rw [if_neg (by omega)]; rfl
    have hol : (owF (fun p => cnt (all.take q) p + (if s.at_ ≤ p ∧ p < s.at_ + (j : Int) then 1 else 0)) sz).length = sz := owF_len _ _
    have hw5 : IntKind.i64.wrap (((cnt (all.take q) k : Nat) : Int) + 1) = ((cnt (all.take q) k : Nat) : Int) + 1 := by have := hcb k; exact wrap_i64 (by omega) (by omega)
    generalize hF : owF (fun p => cnt (all.take q) p + (if s.at_ ≤ p ∧ p < s.at_ + (j : Int) then 1 else 0)) sz = F at hG hFk hol hb2
    refine AWP.reg (by kernel_rfl) (fun E K hE hK => ?_); simp -implicitDefEqProofs only [go_sem, ↓reduceIte, Nat.reduceEqDiff, Nat.reduceAdd, Nat.reduceMul, Nat.reduceLT, Nat.reduceLeDiff, reduceCtorEq, Int.toNat_natCast, e17, e19, hb4, encE, ha1, hk, hkw, hb2, cellsI_get, hFk, Option.map_some, hw5, cellsI_len, hol, Nat.mul_one, cellsI_set]
    refine ⟨⟨by omega, by omega⟩, ⟨by omega, by omega⟩, by omega, ?_⟩
    rw [cellsI_set F k _ (by rw [hol]; exact hkz), hG]
    refine hK _ _ _ ?_; clear hE hK K E
    simp -implicitDefEqProofs only [go_sem, ↓reduceIte, Nat.reduceEqDiff, Nat.reduceAdd, Nat.reduceMul, Nat.reduceLT, Nat.reduceLeDiff, reduceCtorEq, Int.toNat_natCast]
    refine AWP.reg (by kernel_rfl) (fun E K hE hK => ?_); simp -implicitDefEqProofs only [go_sem, ↓reduceIte, Nat.reduceEqDiff, Nat.reduceAdd, Nat.reduceMul, Nat.reduceLT, Nat.reduceLeDiff, reduceCtorEq, Int.toNat_natCast, e121]
    refine hK _ _ _ ?_; clear hE hK K E
    refine ⟨(by decide : 5 ≤ 5), by omega, ⟨cutH_same (Nat.lt_add_of_pos_right (by decide)) (by (first | (simp -implicitDefEqProofs only [go_sem, ↓reduceIte, Nat.reduceEqDiff, Nat.reduceAdd, Nat.reduceMul, Nat.reduceLT, Nat.reduceLeDiff, reduceCtorEq, Int.toNat_natCast, hb]; done) | (simp -implicitDefEqProofs only [go_sem, ↓reduceIte, Nat.reduceEqDiff, Nat.reduceAdd, Nat.reduceMul, Nat.reduceLT, Nat.reduceLeDiff, reduceCtorEq, Int.toNat_natCast, hb]; rfl) | rfl)) rfl, cutH_same (Nat.add_lt_add_left (by decide) _) (by (first | (simp -implicitDefEqProofs only [go_sem, ↓reduceIte, Nat.reduceEqDiff, Nat.reduceAdd, Nat.reduceMul, Nat.reduceLT, Nat.reduceLeDiff, reduceCtorEq, Int.toNat_natCast, hb1]; done) | (simp -implicitDefEqProofs only [go_sem, ↓reduceIte, Nat.reduceEqDiff, Nat.reduceAdd, Nat.reduceMul, Nat.reduceLT, Nat.reduceLeDiff, reduceCtorEq, Int.toNat_natCast, hb1]; rfl) | rfl)) (lowCs_app (lowCs_p _ _) (lowCs_mono (Nat.zero_le _) q3)), cutH_outer (Nat.le_add_right _ _) ((fun id (hid : id < b) => by simp -implicitDefEqProofs only [go_sem, ↓reduceIte, Nat.reduceEqDiff, Nat.reduceAdd, Nat.reduceMul, Nat.reduceLT, Nat.reduceLeDiff, reduceCtorEq, Int.toNat_natCast, show ¬ id = b by omega, show ¬ id = b + 1 by omega, show ¬ id = b + 2 by omega, ho id hid])) hlow, by simp -implicitDefEqProofs only [go_sem, ↓reduceIte, Nat.reduceEqDiff, Nat.reduceAdd, Nat.reduceMul, Nat.reduceLT, Nat.reduceLeDiff, reduceCtorEq, Int.toNat_natCast, e0], by simp -implicitDefEqProofs only [go_sem, ↓reduceIte, Nat.reduceEqDiff, Nat.reduceAdd, Nat.reduceMul, Nat.reduceLT, Nat.reduceLeDiff, reduceCtorEq, Int.toNat_natCast, e5], by simp -implicitDefEqProofs only [go_sem, ↓reduceIte, Nat.reduceEqDiff, Nat.reduceAdd, Nat.reduceMul, Nat.reduceLT, Nat.reduceLeDiff, reduceCtorEq, Int.toNat_natCast, e6]; exact cutV_ptr (Nat.lt_add_of_pos_right (by decide)), by simp -implicitDefEqProofs only [go_sem, ↓reduceIte, Nat.reduceEqDiff, Nat.reduceAdd, Nat.reduceMul, Nat.reduceLT, Nat.reduceLeDiff, reduceCtorEq, Int.toNat_natCast, e8]; exact cutV_win (Nat.add_lt_add_left (by decide) _), by simp -implicitDefEqProofs only [go_sem, ↓reduceIte, Nat.reduceEqDiff, Nat.reduceAdd, Nat.reduceMul, Nat.reduceLT, Nat.reduceLeDiff, reduceCtorEq, Int.toNat_natCast, e44], by simp -implicitDefEqProofs only [go_sem, ↓reduceIte, Nat.reduceEqDiff, Nat.reduceAdd, Nat.reduceMul, Nat.reduceLT, Nat.reduceLeDiff, reduceCtorEq, Int.toNat_natCast, e45], by simp -implicitDefEqProofs only [go_sem, ↓reduceIte, Nat.reduceEqDiff, Nat.reduceAdd, Nat.reduceMul, Nat.reduceLT, Nat.reduceLeDiff, reduceCtorEq, Int.toNat_natCast, e46]⟩, cutH_same (Nat.add_lt_add_left (by decide) _) (by (first | (simp -implicitDefEqProofs only [go_sem, ↓reduceIte, Nat.reduceEqDiff, Nat.reduceAdd, Nat.reduceMul, Nat.reduceLT, Nat.reduceLeDiff, reduceCtorEq, Int.toNat_natCast]; done) | (simp -implicitDefEqProofs only [go_sem, ↓reduceIte, Nat.reduceEqDiff, Nat.reduceAdd, Nat.reduceMul, Nat.reduceLT, Nat.reduceLeDiff, reduceCtorEq, Int.toNat_natCast]; rfl) | rfl)) (cellsI_low _ _), cutH_same (Nat.add_lt_add_left (by decide) _) (by (first | (simp -implicitDefEqProofs only [go_sem, ↓reduceIte, Nat.reduceEqDiff, Nat.reduceAdd, Nat.reduceMul, Nat.reduceLT, Nat.reduceLeDiff, reduceCtorEq, Int.toNat_natCast, hb4]; done) | (simp -implicitDefEqProofs only [go_sem, ↓reduceIte, Nat.reduceEqDiff, Nat.reduceAdd, Nat.reduceMul, Nat.reduceLT, Nat.reduceLeDiff, reduceCtorEq, Int.toNat_natCast, hb4]; rfl) | rfl)) rfl, by simp -implicitDefEqProofs only [go_sem, ↓reduceIte, Nat.reduceEqDiff, Nat.reduceAdd, Nat.reduceMul, Nat.reduceLT, Nat.reduceLeDiff, reduceCtorEq, Int.toNat_natCast, e17]; exact cutV_win (Nat.add_lt_add_left (by decide) _), by simp -implicitDefEqProofs only [go_sem, ↓reduceIte, Nat.reduceEqDiff, Nat.reduceAdd, Nat.reduceMul, Nat.reduceLT, Nat.reduceLeDiff, reduceCtorEq, Int.toNat_natCast, e19]; exact cutV_ptr (Nat.add_lt_add_left (by decide) _), by simp -implicitDefEqProofs only [go_sem, ↓reduceIte, Nat.reduceEqDiff, Nat.reduceAdd, Nat.reduceMul, Nat.reduceLT, Nat.reduceLeDiff, reduceCtorEq, Int.toNat_natCast, e113], by simp -implicitDefEqProofs only [go_sem, ↓reduceIte, Nat.reduceEqDiff, Nat.reduceAdd, Nat.reduceMul, Nat.reduceLT, Nat.reduceLeDiff, reduceCtorEq, Int.toNat_natCast, e114], by simp -implicitDefEqProofs only [go_sem, ↓reduceIte, Nat.reduceEqDiff, Nat.reduceAdd, Nat.reduceMul, Nat.reduceLT, Nat.reduceLeDiff, reduceCtorEq, Int.toNat_natCast, e115], by simp -implicitDefEqProofs only [go_sem, ↓reduceIte, Nat.reduceEqDiff, Nat.reduceAdd, Nat.reduceMul, Nat.reduceLT, Nat.reduceLeDiff, reduceCtorEq, Int.toNat_natCast, e120], ?_⟩
    simp -implicitDefEqProofs only [go_sem, ↓reduceIte, Nat.reduceEqDiff, Nat.reduceAdd, Nat.reduceMul, Nat.reduceLT, Nat.reduceLeDiff, reduceCtorEq, Int.toNat_natCast]; rw [wrap_i64 (by omega) (by omega)]; rfl
  clear hb hb1 ho e0 e5 e6 e8 e44 e45 e46 hnew hnew3 hrow t h2
  rintro ⟨t, h2, m⟩ ⟨hm, ⟨hb, hb1, ho, e0, e5, e6, e8, e44, e45, e46⟩, hb2, e17, e113, e114, e115⟩
  simp only at hm hb hb1 ho e0 e5 e6 e8 e44 e45 e46 hb2 e17 e113 e114 e115
  subst hm
  rw [List.take_length] at hb2
  have hone : ∀ p : Nat, p < sz → (cellsI (owF (fun p => cnt all p) sz))[p]? = some (.p (.v (.int .i64 1))) := by
    intro p hp
    rw [cellsI_get, owF_get _ hp, hon p (by omega) (by omega)]
    rfl
  have hol : (cellsI (owF (fun p => cnt all p) sz)).length = sz := by rw [cellsI_len, owF_len]
  have hlo : lowCs (b + 4) (cellsI (owF (fun p => cnt all p) sz)) = true := cellsI_low _ _
  generalize cellsI (owF (fun p => cnt all p) sz) = OW at hb2 hone hol hlo
  refine AWP.seqReg (by kernel_rfl) (fun E K hE hK => ?_); simp -implicitDefEqProofs only [go_sem, ↓reduceIte, Nat.reduceEqDiff, Nat.reduceAdd, Nat.reduceMul, Nat.reduceLT, Nat.reduceLeDiff, reduceCtorEq, Int.toNat_natCast, e17, hb2]; refine hK _ _ _ ?_; clear hE hK K E
  refine AWP.block ?_
  refine AWP.loopUp 4 sz (fun p st => scB size ns hh b i x l ver cap T st ∧ st.h (b + 2) = some ⟨0, OW⟩ ∧ st.t 146 = .one (.win (b + 2) 0 0 sz sz) ∧ st.t 147 = IntV sz ∧ st.t 148 = IntV p) 0 (Nat.zero_le _) rfl ⟨⟨hb, hb1, ho, by simp -implicitDefEqProofs only [go_sem, ↓reduceIte, Nat.reduceEqDiff, Nat.reduceAdd, Nat.reduceMul, Nat.reduceLT, Nat.reduceLeDiff, reduceCtorEq, Int.toNat_natCast, e0], by simp -implicitDefEqProofs only [go_sem, ↓reduceIte, Nat.reduceEqDiff, Nat.reduceAdd, Nat.reduceMul, Nat.reduceLT, Nat.reduceLeDiff, reduceCtorEq, Int.toNat_natCast, e5], by simp -implicitDefEqProofs only [go_sem, ↓reduceIte, Nat.reduceEqDiff, Nat.reduceAdd, Nat.reduceMul, Nat.reduceLT, Nat.reduceLeDiff, reduceCtorEq, Int.toNat_natCast, e6], by simp -implicitDefEqProofs only [go_sem, ↓reduceIte, Nat.reduceEqDiff, Nat.reduceAdd, Nat.reduceMul, Nat.reduceLT, Nat.reduceLeDiff, reduceCtorEq, Int.toNat_natCast, e8], by simp -implicitDefEqProofs only [go_sem, ↓reduceIte, Nat.reduceEqDiff, Nat.reduceAdd, Nat.reduceMul, Nat.reduceLT, Nat.reduceLeDiff, reduceCtorEq, Int.toNat_natCast, e44], by simp -implicitDefEqProofs only [go_sem, ↓reduceIte, Nat.reduceEqDiff, Nat.reduceAdd, Nat.reduceMul, Nat.reduceLT, Nat.reduceLeDiff, reduceCtorEq, Int.toNat_natCast, e45], by simp -implicitDefEqProofs only [go_sem, ↓reduceIte, Nat.reduceEqDiff, Nat.reduceAdd, Nat.reduceMul, Nat.reduceLT, Nat.reduceLeDiff, reduceCtorEq, Int.toNat_natCast, e46]⟩, hb2, by simp -implicitDefEqProofs only [go_sem, ↓reduceIte, Nat.reduceEqDiff, Nat.reduceAdd, Nat.reduceMul, Nat.reduceLT, Nat.reduceLeDiff, reduceCtorEq, Int.toNat_natCast], by (first | (simp -implicitDefEqProofs only [go_sem, ↓reduceIte, Nat.reduceEqDiff, Nat.reduceAdd, Nat.reduceMul, Nat.reduceLT, Nat.reduceLeDiff, reduceCtorEq, Int.toNat_natCast]; done) | (simp -implicitDefEqProofs only [go_sem, ↓reduceIte, Nat.reduceEqDiff, Nat.reduceAdd, Nat.reduceMul, Nat.reduceLT, Nat.reduceLeDiff, reduceCtorEq, Int.toNat_natCast]; rfl) | rfl), by (first | (simp -implicitDefEqProofs only [go_sem, ↓reduceIte, Nat.reduceEqDiff, Nat.reduceAdd, Nat.reduceMul, Nat.reduceLT, Nat.reduceLeDiff, reduceCtorEq, Int.toNat_natCast]; done) | (simp -implicitDefEqProofs only [go_sem, ↓reduceIte, Nat.reduceEqDiff, Nat.reduceAdd, Nat.reduceMul, Nat.reduceLT, Nat.reduceLeDiff, reduceCtorEq, Int.toNat_natCast]; rfl) | rfl)⟩ ?_
  clear hb hb1 ho e0 e5 e6 e8 e44 e45 e46 hb2 e17 e113 e114 e115
  clear t h2
  rintro p ⟨t, h2, m⟩ hp ⟨⟨hb, hb1, ho, e0, e5, e6, e8, e44, e45, e46⟩, hb2, e146, e147, e148⟩ hm
  simp only at hb hb1 ho e0 e5 e6 e8 e44 e45 e46 hb2 e146 e147 e148 hm
  subst hm
  refine AWP.seqReg (by kernel_rfl) (fun E K hE hK => ?_); simp -implicitDefEqProofs only [go_sem, ↓reduceIte, Nat.reduceEqDiff, Nat.reduceAdd, Nat.reduceMul, Nat.reduceLT, Nat.reduceLeDiff, reduceCtorEq, Int.toNat_natCast, e147, e148]; refine hK _ _ _ ?_; clear hE hK K E
  by_cases hlt4 : (p : Int) < (sz : Int)
  case neg =>
    refine AWP.seq ?_
    refine AWP.ifF (by simp -implicitDefEqProofs only [go_sem, ↓reduceIte, Nat.reduceEqDiff, Nat.reduceAdd, Nat.reduceMul, Nat.reduceLT, Nat.reduceLeDiff, reduceCtorEq, Int.toNat_natCast, hlt4]) ?_
    refine AWP.exit ?_
    simp -implicitDefEqProofs only [go_sem, ↓reduceIte, Nat.reduceEqDiff, Nat.reduceAdd, Nat.reduceMul, Nat.reduceLT, Nat.reduceLeDiff, reduceCtorEq, Int.toNat_natCast]
    refine AWP.reg (by kernel_rfl) (fun E K hE hK => ?_); simp -implicitDefEqProofs only [go_sem, ↓reduceIte, Nat.reduceEqDiff, Nat.reduceAdd, Nat.reduceMul, Nat.reduceLT, Nat.reduceLeDiff, reduceCtorEq, Int.toNat_natCast, e46]
    refine hK _ _ _ ?_; clear hE hK K E
    refine ⟨(by decide : 2 ≤ 4), hi2, ver, cap, T, l, x, q1, q2, q3, q4, by omega, hS, cutH_same (Nat.lt_add_of_pos_right (by decide)) (by (first | (simp -implicitDefEqProofs only [go_sem, ↓reduceIte, Nat.reduceEqDiff, Nat.reduceAdd, Nat.reduceMul, Nat.reduceLT, Nat.reduceLeDiff, reduceCtorEq, Int.toNat_natCast, hb]; done) | (simp -implicitDefEqProofs only [go_sem, ↓reduceIte, Nat.reduceEqDiff, Nat.reduceAdd, Nat.reduceMul, Nat.reduceLT, Nat.reduceLeDiff, reduceCtorEq, Int.toNat_natCast, hb]; rfl) | rfl)) rfl, cutH_same (Nat.add_lt_add_left (by decide) _) (by (first | (simp -implicitDefEqProofs only [go_sem, ↓reduceIte, Nat.reduceEqDiff, Nat.reduceAdd, Nat.reduceMul, Nat.reduceLT, Nat.reduceLeDiff, reduceCtorEq, Int.toNat_natCast, hb1]; done) | (simp -implicitDefEqProofs only [go_sem, ↓reduceIte, Nat.reduceEqDiff, Nat.reduceAdd, Nat.reduceMul, Nat.reduceLT, Nat.reduceLeDiff, reduceCtorEq, Int.toNat_natCast, hb1]; rfl) | rfl)) (lowCs_app (lowCs_p _ _) (lowCs_mono (Nat.zero_le _) q3)), cutH_outer (Nat.le_add_right _ _) ho hlow, by simp -implicitDefEqProofs only [go_sem, ↓reduceIte, Nat.reduceEqDiff, Nat.reduceAdd, Nat.reduceMul, Nat.reduceLT, Nat.reduceLeDiff, reduceCtorEq, Int.toNat_natCast, e0], by simp -implicitDefEqProofs only [go_sem, ↓reduceIte, Nat.reduceEqDiff, Nat.reduceAdd, Nat.reduceMul, Nat.reduceLT, Nat.reduceLeDiff, reduceCtorEq, Int.toNat_natCast, e5], by simp -implicitDefEqProofs only [go_sem, ↓reduceIte, Nat.reduceEqDiff, Nat.reduceAdd, Nat.reduceMul, Nat.reduceLT, Nat.reduceLeDiff, reduceCtorEq, Int.toNat_natCast, e6]; exact cutV_ptr (Nat.lt_add_of_pos_right (by decide)), by simp -implicitDefEqProofs only [go_sem, ↓reduceIte, Nat.reduceEqDiff, Nat.reduceAdd, Nat.reduceMul, Nat.reduceLT, Nat.reduceLeDiff, reduceCtorEq, Int.toNat_natCast, e8]; exact cutV_win (Nat.add_lt_add_left (by decide) _), by simp -implicitDefEqProofs only [go_sem, ↓reduceIte, Nat.reduceEqDiff, Nat.reduceAdd, Nat.reduceMul, Nat.reduceLT, Nat.reduceLeDiff, reduceCtorEq, Int.toNat_natCast, e44], by simp -implicitDefEqProofs only [go_sem, ↓reduceIte, Nat.reduceEqDiff, Nat.reduceAdd, Nat.reduceMul, Nat.reduceLT, Nat.reduceLeDiff, reduceCtorEq, Int.toNat_natCast, e45], ?_⟩
    simp -implicitDefEqProofs only [go_sem, ↓reduceIte, Nat.reduceEqDiff, Nat.reduceAdd, Nat.reduceMul, Nat.reduceLT, Nat.reduceLeDiff, reduceCtorEq, Int.toNat_natCast]; rw [wrap_i64 (by omega) (by omega)]; rfl
  have hp2 : p < sz := by omega
  have h1 := hone p hp2
  refine AWP.seq ?_
  refine AWP.ifT (by simp -implicitDefEqProofs only [go_sem, ↓reduceIte, Nat.reduceEqDiff, Nat.reduceAdd, Nat.reduceMul, Nat.reduceLT, Nat.reduceLeDiff, reduceCtorEq, Int.toNat_natCast, hlt4]) ?_
  refine AWP.skip ?_
  simp -implicitDefEqProofs only [go_sem, ↓reduceIte, Nat.reduceEqDiff, Nat.reduceAdd, Nat.reduceMul, Nat.reduceLT, Nat.reduceLeDiff, reduceCtorEq, Int.toNat_natCast]
  refine AWP.seq ?_
  refine AWP.block ?_
  refine AWP.seqReg (by kernel_rfl) (fun E K hE hK => ?_); simp -implicitDefEqProofs only [go_sem, ↓reduceIte, Nat.reduceEqDiff, Nat.reduceAdd, Nat.reduceMul, Nat.reduceLT, Nat.reduceLeDiff, reduceCtorEq, Int.toNat_natCast, e146, e148, hb2, h1, Nat.mul_one, Option.map_some]
  refine ⟨⟨by omega, by omega⟩, ?_⟩
  refine hK _ _ _ ?_; clear hE hK K E
  refine AWP.seqReg (by kernel_rfl) (fun E K hE hK => ?_); simp -implicitDefEqProofs only [go_sem, ↓reduceIte, Nat.reduceEqDiff, Nat.reduceAdd, Nat.reduceMul, Nat.reduceLT, Nat.reduceLeDiff, reduceCtorEq, Int.toNat_natCast, decide_true, Bool.not_true]; refine hK _ _ _ ?_; clear hE hK K E
  refine AWP.ifF (by simp -implicitDefEqProofs only [go_sem, ↓reduceIte, Nat.reduceEqDiff, Nat.reduceAdd, Nat.reduceMul, Nat.reduceLT, Nat.reduceLeDiff, reduceCtorEq, Int.toNat_natCast]) ?_; refine AWP.skip ?_; simp -implicitDefEqProofs only [go_sem, ↓reduceIte, Nat.reduceEqDiff, Nat.reduceAdd, Nat.reduceMul, Nat.reduceLT, Nat.reduceLeDiff, reduceCtorEq, Int.toNat_natCast]
  refine AWP.reg (by kernel_rfl) (fun E K hE hK => ?_); simp -implicitDefEqProofs only [go_sem, ↓reduceIte, Nat.reduceEqDiff, Nat.reduceAdd, Nat.reduceMul, Nat.reduceLT, Nat.reduceLeDiff, reduceCtorEq, Int.toNat_natCast, e148]
  refine hK _ _ _ ?_; clear hE hK K E
  refine ⟨(by decide : 4 ≤ 4), hp2, ⟨cutH_same (Nat.lt_add_of_pos_right (by decide)) (by (first | (simp -implicitDefEqProofs only [go_sem, ↓reduceIte, Nat.reduceEqDiff, Nat.reduceAdd, Nat.reduceMul, Nat.reduceLT, Nat.reduceLeDiff, reduceCtorEq, Int.toNat_natCast, hb]; done) | (simp -implicitDefEqProofs only [go_sem, ↓reduceIte, Nat.reduceEqDiff, Nat.reduceAdd, Nat.reduceMul, Nat.reduceLT, Nat.reduceLeDiff, reduceCtorEq, Int.toNat_natCast, hb]; rfl) | rfl)) rfl, cutH_same (Nat.add_lt_add_left (by decide) _) (by (first | (simp -implicitDefEqProofs only [go_sem, ↓reduceIte, Nat.reduceEqDiff, Nat.reduceAdd, Nat.reduceMul, Nat.reduceLT, Nat.reduceLeDiff, reduceCtorEq, Int.toNat_natCast, hb1]; done) | (simp -implicitDefEqProofs only [go_sem, ↓reduceIte, Nat.reduceEqDiff, Nat.reduceAdd, Nat.reduceMul, Nat.reduceLT, Nat.reduceLeDiff, reduceCtorEq, Int.toNat_natCast, hb1]; rfl) | rfl)) (lowCs_app (lowCs_p _ _) (lowCs_mono (Nat.zero_le _) q3)), cutH_outer (Nat.le_add_right _ _) ho hlow, by simp -implicitDefEqProofs only [go_sem, ↓reduceIte, Nat.reduceEqDiff, Nat.reduceAdd, Nat.reduceMul, Nat.reduceLT, Nat.reduceLeDiff, reduceCtorEq, Int.toNat_natCast, e0], by simp -implicitDefEqProofs only [go_sem, ↓reduceIte, Nat.reduceEqDiff, Nat.reduceAdd, Nat.reduceMul, Nat.reduceLT, Nat.reduceLeDiff, reduceCtorEq, Int.toNat_natCast, e5], by simp -implicitDefEqProofs only [go_sem, ↓reduceIte, Nat.reduceEqDiff, Nat.reduceAdd, Nat.reduceMul, Nat.reduceLT, Nat.reduceLeDiff, reduceCtorEq, Int.toNat_natCast, e6]; exact cutV_ptr (Nat.lt_add_of_pos_right (by decide)), by simp -implicitDefEqProofs only [go_sem, ↓reduceIte, Nat.reduceEqDiff, Nat.reduceAdd, Nat.reduceMul, Nat.reduceLT, Nat.reduceLeDiff, reduceCtorEq, Int.toNat_natCast, e8]; exact cutV_win (Nat.add_lt_add_left (by decide) _), by simp -implicitDefEqProofs only [go_sem, ↓reduceIte, Nat.reduceEqDiff, Nat.reduceAdd, Nat.reduceMul, Nat.reduceLT, Nat.reduceLeDiff, reduceCtorEq, Int.toNat_natCast, e44], by simp -implicitDefEqProofs only [go_sem, ↓reduceIte, Nat.reduceEqDiff, Nat.reduceAdd, Nat.reduceMul, Nat.reduceLT, Nat.reduceLeDiff, reduceCtorEq, Int.toNat_natCast, e45], by simp -implicitDefEqProofs only [go_sem, ↓reduceIte, Nat.reduceEqDiff, Nat.reduceAdd, Nat.reduceMul, Nat.reduceLT, Nat.reduceLeDiff, reduceCtorEq, Int.toNat_natCast, e46]⟩, cutH_same (Nat.add_lt_add_left (by decide) _) (by (first | (simp -implicitDefEqProofs only [go_sem, ↓reduceIte, Nat.reduceEqDiff, Nat.reduceAdd, Nat.reduceMul, Nat.reduceLT, Nat.reduceLeDiff, reduceCtorEq, Int.toNat_natCast, hb2]; done) | (simp -implicitDefEqProofs only [go_sem, ↓reduceIte, Nat.reduceEqDiff, Nat.reduceAdd, Nat.reduceMul, Nat.reduceLT, Nat.reduceLeDiff, reduceCtorEq, Int.toNat_natCast, hb2]; rfl) | rfl)) hlo, by simp -implicitDefEqProofs only [go_sem, ↓reduceIte, Nat.reduceEqDiff, Nat.reduceAdd, Nat.reduceMul, Nat.reduceLT, Nat.reduceLeDiff, reduceCtorEq, Int.toNat_natCast, e146]; exact cutV_win (Nat.add_lt_add_left (by decide) _), by simp -implicitDefEqProofs only [go_sem, ↓reduceIte, Nat.reduceEqDiff, Nat.reduceAdd, Nat.reduceMul, Nat.reduceLT, Nat.reduceLeDiff, reduceCtorEq, Int.toNat_natCast, e147], ?_⟩
  simp -implicitDefEqProofs only [go_sem, ↓reduceIte, Nat.reduceEqDiff, Nat.reduceAdd, Nat.reduceMul, Nat.reduceLT, Nat.reduceLeDiff, reduceCtorEq, Int.toNat_natCast]; rw [wrap_i64 (by omega) (by omega)]; rfl

end Go.Proofs.Ytdannmfdenlikaa
