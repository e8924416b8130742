/-
  Walks of package table: Within; the reference's One, of one file with itself.
-/
import Derived.Test.YtengjcdilnikhaaDoorTbW5
namespace Go.Proofs.YtengjcdilnikhaaDoor
set_option linter.unusedSimpArgs false
set_option linter.unusedVariables false
set_option linter.unnecessarySimpa false
open Go Am
set_option maxRecDepth 100000

/-! ### plain -/
theorem join_x (d : S) : (joinN d [120]).2 = 1 ↔ folN d ≠ 0 := by
  unfold joinN
  by_cases h : folN d = 0
  · rw [if_neg (by simp [h])]
    refine ⟨fun e => absurd e ?_, fun e => absurd h e⟩
    rcases folN_zero.1 h with rfl | hc
    · decide
    · obtain ⟨h1, h2, h3⟩ := hc
      have hlen : (d ++ 47 :: [120]).length = d.length + 2 := by simp
      by_cases hl : 96 < (d ++ 47 :: [120]).length
      · have hf : fitsX (d ++ 47 :: [120]) = 3 := by unfold fitsX; rw [if_pos hl]
        unfold cleanX
        rw [if_pos (by rw [hf]; decide), hf]; decide
      · have hcl : Cln (d ++ 47 :: [120]) := by
          refine ⟨by omega, fun c hc => ?_, ?_⟩
          · rcases List.mem_append.1 hc with hc | hc
            · exact h2 c hc
            · simp at hc; rcases hc with rfl | rfl <;> rfl
          · rw [parts_app]
            intro q hq
            rcases List.mem_append.1 hq with hq | hq
            · exact h3 q hq
            · have e : parts [120] = [[120]] := by decide
              rw [e] at hq
              simp at hq; subst hq; decide
        rw [cleanX_self.2 hcl]; exact (by decide : ¬ (0 : Int) = 1)
  · rw [if_pos h]
    refine ⟨fun _ => h, fun _ => ?_⟩
    unfold folN at h ⊢
    split
    · rename_i hd; rw [if_pos hd] at h; exact absurd rfl h
    · rename_i hd; rw [if_neg hd] at h; rcases chkN_or d with e | e
      · exact absurd e h
      · exact e

abbrev insF (d : S) (f : Fl) : Bool := (withinN d f.name).1
def withR (l : List Fl) (d : S) : List Fl × Int := if folN d ≠ 0 ∨ checkT l ≠ 0 then ([], 1) else (l.filter (insF d), 0)
theorem within_zero {d : S} {f : Fl} (hd : folN d = 0) (hf : mayF f = true) : (withinN d f.name).2 = 0 := by
  rw [withinN_ok (folN_zero.1 hd) (chkN_zero.1 (mayF_chk hf))]

/-! ### an own row of files -/
def FlRow (h : Heap) (id ver cap : Nat) (m : List Fl) : Prop := ∃ T, h id = some (rowB ver (m.map encF) T) ∧ m.length * 6 + T.length = cap * 6 ∧ lowCs 0 T = true
theorem FlRow.cut {h : Heap} {id ver cap k : Nat} {m : List Fl} (r : FlRow h id ver cap m) (hm : id < k) : FlRow (cutH k h) id ver cap m := by
  obtain ⟨T, h1, h2, h3⟩ := r
  exact ⟨T, cutH_same hm h1 (lowCs_app (lowCs_p _ _) (lowCs_mono (Nat.zero_le _) h3)), h2, h3⟩
theorem FlRow.ne {h : Heap} {id ver cap i : Nat} {m : List Fl} {blk : Blk} (r : FlRow h id ver cap m) (hi : id ≠ i) : FlRow (upd h i blk) id ver cap m := by
  obtain ⟨T, h1, h2, h3⟩ := r
  exact ⟨T, by rw [upd_ne _ _ _ _ hi]; exact h1, h2, h3⟩

theorem append_fl {C : Ctx} {h : Heap} {n : Nat} {K : KT} {id ver cap id2 : Nat} {m : List Fl} {f : Fl} (hr : FlRow h id ver cap m) (h2 : h id2 = some ⟨0, (encF f).map .p⟩) (hl : m.length ≤ 100000)
    (k : ∀ cap' T', (m.length + 1) * 6 + T'.length = cap' * 6 → lowCs 0 T' = true → K (.one (.win id (ver + 1) 0 (m.length + 1) cap')) (upd h id (rowB (ver + 1) ((m ++ [f]).map encF) T')) n) :
    BiK Tryd.prog C .append [53, 53] [.one (.win id ver 0 m.length cap), .one (.win id2 0 0 1 1)] h n K := by
  obtain ⟨T, h1, h3, h4⟩ := hr
  have hlm : (m.map encF).length = m.length := List.length_map _
  have hfl := okEs_len (okEs_fl m)
  rw [hlm] at hfl
  refine BiK.append_own (e := 60) (sz := 6) (bytes := 56) (m := 1) (xs := (encF f).map .p) (blk := rowB ver (m.map encF) T) ty_slE_53 ty_tsz_60 ty_tzero_60 rfl ty_tby_60 ty_isIntT_53 h1 rfl
    (by rw [rowB]; simp only [List.length_append, List.length_map, hfl]; omega) (by simp [srcA, h2]) (by intro c hc; obtain ⟨x, hx, rfl⟩ := List.mem_map.1 hc; exact okEs_flat (okEs_fl [f]) _ (.p x) (List.mem_map.2 ⟨x, by simpa using hx, rfl⟩)) (by omega) (by decide) (by omega) (fun cap' j q1 q2 => ?_)
  have e := row_push (sz := 6) (ver := ver + 1) (len := m.length) (es := m.map encF) (fs := [encF f]) (T := T) (okEs_fl m) hlm.symm j
  have e2 : ([encF f].flatten.map Cell.p) = (encF f).map .p := rfl
  rw [e2] at e
  rw [show (rowB ver (m.map encF) T).cells = (m.map encF).flatten.map .p ++ T from rfl, e, show m.map encF ++ [encF f] = (m ++ [f]).map encF by simp]
  exact k cap' _ (by rw [List.length_replicate]; omega) (lowCs_junk _ _)

def tWiI (l : List Fl) (d : S) (h : Heap) (b i : Nat) (st : St) : Prop :=
  ∃ ver cap, FlRow st.h b ver cap ((l.take i).filter (insF d)) ∧ (∀ id, id < b → st.h id = h id) ∧ st.t 1 = StrV d ∧ st.t 4 = .one (.win b ver 0 ((l.take i).filter (insF d)).length cap) ∧ st.t 24 = FlsV l ∧ st.t 25 = IntV l.length ∧ st.t 26 = IntV (i : Nat)

theorem tWithin_ok (l : List Fl) (d : S) (hl : l.length ≤ 100000) (h : Heap) (b : Nat) :
    ACalls Tryd.prog 43 [FlsV l, StrV d] h b 0 (fun r h' => r = .tup [FlsV (withR l d).1, IntV (withR l d).2] ∧ h' = h) := by
  refine ACalls.enter Tryd.func43 rfl (by simp [Tryd.ntmps43]) (fun ι w hn H => ?_)
  have hlow := H.lowCells
  have hlm : (l.map encF).length = l.length := List.length_map _
  have fin : ∀ (t : Nat → AV) (hh : Heap) (n : Nat) (e : Int), t 4 = .one (.p (.v (.slice none 0 0))) → t 5 = IntV e → (∀ id, id < b → hh id = h id) → ([], e) = withR l d → Am.Ends Tryd.prog ⟨Tryd.f43.ntmps, b, ι, h, w, x0⟩ Tryd.f43 0 (fun r h' => r = .tup [FlsV (withR l d).1, IntV (withR l d).2] ∧ h' = h) ⟨t, hh, n⟩ := by
    intro t hh n e ht ht2 ho hv
    exact Ends.pure hn H ho (r0 := .tup [.one (.p (.v (.slice none 0 0))), IntV e]) (by rw [show Tryd.f43.results.toList = [.tmp 4, .tmp 5] from rfl]; simp -implicitDefEqProofs only [go_sem, ↓reduceIte, Nat.reduceEqDiff, Nat.reduceAdd, Nat.reduceMul, Nat.reduceLT, Nat.reduceLeDiff, reduceCtorEq, Int.toNat_natCast, ht, ht2]) (frz_tup2 (.one (frz_nil 6)) (.v _)) ⟨by rw [← hv]; rfl, rfl⟩
  have fin2 : ∀ (t : Nat → AV) (hh : Heap) (n : Nat) (m : List Fl), t 4 = FlsV m → t 5 = IntV 0 → (∀ id, id < b → hh id = h id) → (m, 0) = withR l d → Am.Ends Tryd.prog ⟨Tryd.f43.ntmps, b, ι, h, w, x0⟩ Tryd.f43 0 (fun r h' => r = .tup [FlsV (withR l d).1, IntV (withR l d).2] ∧ h' = h) ⟨t, hh, n⟩ := by
    intro t hh n m ht ht2 ho hv
    exact Ends.pure hn H ho (r0 := .tup [FlsV m, IntV 0]) (by rw [show Tryd.f43.results.toList = [.tmp 4, .tmp 5] from rfl]; simp -implicitDefEqProofs only [go_sem, ↓reduceIte, Nat.reduceEqDiff, Nat.reduceAdd, Nat.reduceMul, Nat.reduceLT, Nat.reduceLeDiff, reduceCtorEq, Int.toNat_natCast, ht, ht2]) (frz_tup2 (frzV.p _) (.v _)) ⟨by rw [← hv], rfl⟩
  obtain ⟨ja, je, hj⟩ : ∃ ja je, joinN d [120] = (ja, je) := ⟨_, _, rfl⟩
  have hjx := join_x d
  rw [hj] at hjx
  simp only at hjx
  have cj : ∀ b' : Nat, ACalls Tryd.prog 81 [StrV d, .one (.p (.v (.string ⟨#[120]⟩)))] h b' 0 (fun r h' => r = .tup [StrV ja, IntV je] ∧ h' = h) := by
    intro b'
    have c := Join_ok (mkS d) (mkS [120]) (by rw [mkS_size]; decide) h b'
    rw [show bl (mkS d) = d from rfl, show bl (mkS [120]) = [120] from rfl, hj] at c
    exact c
  refine AWP.seqReg (by kernel_rfl) (fun E K hE hK => ?_); simp -implicitDefEqProofs only [go_sem, ↓reduceIte, Nat.reduceEqDiff, Nat.reduceAdd, Nat.reduceMul, Nat.reduceLT, Nat.reduceLeDiff, reduceCtorEq, Int.toNat_natCast]; refine hK _ _ _ ?_; clear hE hK K E
  refine AWP.seq ?_
  refine AWP.seqReg (by kernel_rfl) (fun E K hE hK => ?_); simp -implicitDefEqProofs only [go_sem, ↓reduceIte, Nat.reduceEqDiff, Nat.reduceAdd, Nat.reduceMul, Nat.reduceLT, Nat.reduceLeDiff, reduceCtorEq, Int.toNat_natCast]
  refine CallR.use (cj _) body_81 ?_; rintro _ h_ ⟨rfl, e_⟩; rw [e_]; clear e_ h_; simp -implicitDefEqProofs only [go_sem, ↓reduceIte, Nat.reduceEqDiff, Nat.reduceAdd, Nat.reduceMul, Nat.reduceLT, Nat.reduceLeDiff, reduceCtorEq, Int.toNat_natCast]
  refine hK _ _ _ ?_; clear hE hK K E
  by_cases c1 : je = 1
  · subst c1
    refine AWP.seqReg (by kernel_rfl) (fun E K hE hK => ?_); simp -implicitDefEqProofs only [go_sem, ↓reduceIte, Nat.reduceEqDiff, Nat.reduceAdd, Nat.reduceMul, Nat.reduceLT, Nat.reduceLeDiff, reduceCtorEq, Int.toNat_natCast]; refine hK _ _ _ ?_; clear hE hK K E
    refine AWP.ifT (by simp -implicitDefEqProofs only [go_sem, ↓reduceIte, Nat.reduceEqDiff, Nat.reduceAdd, Nat.reduceMul, Nat.reduceLT, Nat.reduceLeDiff, reduceCtorEq, Int.toNat_natCast]) ?_
    refine AWP.seqReg (by kernel_rfl) (fun E K hE hK => ?_); simp -implicitDefEqProofs only [go_sem, ↓reduceIte, Nat.reduceEqDiff, Nat.reduceAdd, Nat.reduceMul, Nat.reduceLT, Nat.reduceLeDiff, reduceCtorEq, Int.toNat_natCast]; refine hK _ _ _ ?_; clear hE hK K E
    refine AWP.ret ?_
    simp -implicitDefEqProofs only [go_sem, ↓reduceIte, Nat.reduceEqDiff, Nat.reduceAdd, Nat.reduceMul, Nat.reduceLT, Nat.reduceLeDiff, reduceCtorEq, Int.toNat_natCast]
    exact fin _ _ _ 1 (by (first | (simp -implicitDefEqProofs only [go_sem, ↓reduceIte, Nat.reduceEqDiff, Nat.reduceAdd, Nat.reduceMul, Nat.reduceLT, Nat.reduceLeDiff, reduceCtorEq, Int.toNat_natCast]; done) | (simp -implicitDefEqProofs only [go_sem, ↓reduceIte, Nat.reduceEqDiff, Nat.reduceAdd, Nat.reduceMul, Nat.reduceLT, Nat.reduceLeDiff, reduceCtorEq, Int.toNat_natCast]; rfl) | rfl)) (by (first | (simp -implicitDefEqProofs only [go_sem, ↓reduceIte, Nat.reduceEqDiff, Nat.reduceAdd, Nat.reduceMul, Nat.reduceLT, Nat.reduceLeDiff, reduceCtorEq, Int.toNat_natCast]; done) | (simp -implicitDefEqProofs only [go_sem, ↓reduceIte, Nat.reduceEqDiff, Nat.reduceAdd, Nat.reduceMul, Nat.reduceLT, Nat.reduceLeDiff, reduceCtorEq, Int.toNat_natCast]; rfl) | rfl)) (fun _ _ => rfl) (by unfold withR; rw [if_pos (.inl (hjx.1 rfl))])
  have hfd : folN d = 0 := by
    by_cases q : folN d = 0
    · exact q
    · exact absurd (hjx.2 q) c1
  by_cases c2 : checkT l = 0
  case neg =>
    refine AWP.seqReg (by kernel_rfl) (fun E K hE hK => ?_); simp -implicitDefEqProofs only [go_sem, ↓reduceIte, Nat.reduceEqDiff, Nat.reduceAdd, Nat.reduceMul, Nat.reduceLT, Nat.reduceLeDiff, reduceCtorEq, Int.toNat_natCast, c1]
    refine CallR.use (tCheck_ok l (by omega) _ _) body_39 ?_; rintro _ h_ ⟨rfl, e_⟩; rw [e_]; clear e_ h_; simp -implicitDefEqProofs only [go_sem, ↓reduceIte, Nat.reduceEqDiff, Nat.reduceAdd, Nat.reduceMul, Nat.reduceLT, Nat.reduceLeDiff, reduceCtorEq, Int.toNat_natCast]
    simp -implicitDefEqProofs only [go_sem, ↓reduceIte, Nat.reduceEqDiff, Nat.reduceAdd, Nat.reduceMul, Nat.reduceLT, Nat.reduceLeDiff, reduceCtorEq, Int.toNat_natCast, c2]
    refine hK _ _ _ ?_; clear hE hK K E
    refine AWP.ifT (by simp -implicitDefEqProofs only [go_sem, ↓reduceIte, Nat.reduceEqDiff, Nat.reduceAdd, Nat.reduceMul, Nat.reduceLT, Nat.reduceLeDiff, reduceCtorEq, Int.toNat_natCast]) ?_
    refine AWP.seqReg (by kernel_rfl) (fun E K hE hK => ?_); simp -implicitDefEqProofs only [go_sem, ↓reduceIte, Nat.reduceEqDiff, Nat.reduceAdd, Nat.reduceMul, Nat.reduceLT, Nat.reduceLeDiff, reduceCtorEq, Int.toNat_natCast]; refine hK _ _ _ ?_; clear hE hK K E
    refine AWP.ret ?_
    simp -implicitDefEqProofs only [go_sem, ↓reduceIte, Nat.reduceEqDiff, Nat.reduceAdd, Nat.reduceMul, Nat.reduceLT, Nat.reduceLeDiff, reduceCtorEq, Int.toNat_natCast]
    exact fin _ _ _ 1 (by (first | (simp -implicitDefEqProofs only [go_sem, ↓reduceIte, Nat.reduceEqDiff, Nat.reduceAdd, Nat.reduceMul, Nat.reduceLT, Nat.reduceLeDiff, reduceCtorEq, Int.toNat_natCast]; done) | (simp -implicitDefEqProofs only [go_sem, ↓reduceIte, Nat.reduceEqDiff, Nat.reduceAdd, Nat.reduceMul, Nat.reduceLT, Nat.reduceLeDiff, reduceCtorEq, Int.toNat_natCast]; rfl) | rfl)) (by (first | (simp -implicitDefEqProofs only [go_sem, ↓reduceIte, Nat.reduceEqDiff, Nat.reduceAdd, Nat.reduceMul, Nat.reduceLT, Nat.reduceLeDiff, reduceCtorEq, Int.toNat_natCast]; done) | (simp -implicitDefEqProofs only [go_sem, ↓reduceIte, Nat.reduceEqDiff, Nat.reduceAdd, Nat.reduceMul, Nat.reduceLT, Nat.reduceLeDiff, reduceCtorEq, Int.toNat_natCast]; rfl) | rfl)) (fun _ _ => rfl) (by unfold withR; rw [if_pos (.inr c2)])
  have hwr : withR l d = (l.filter (insF d), 0) := by unfold withR; rw [if_neg (by simp [hfd, c2])]
  have hmay := tabF_may (checkT_zero.1 c2).2
  refine AWP.seqReg (by kernel_rfl) (fun E K hE hK => ?_); simp -implicitDefEqProofs only [go_sem, ↓reduceIte, Nat.reduceEqDiff, Nat.reduceAdd, Nat.reduceMul, Nat.reduceLT, Nat.reduceLeDiff, reduceCtorEq, Int.toNat_natCast, c1]
  refine CallR.use (tCheck_ok l (by omega) _ _) body_39 ?_; rintro _ h_ ⟨rfl, e_⟩; rw [e_]; clear e_ h_; simp -implicitDefEqProofs only [go_sem, ↓reduceIte, Nat.reduceEqDiff, Nat.reduceAdd, Nat.reduceMul, Nat.reduceLT, Nat.reduceLeDiff, reduceCtorEq, Int.toNat_natCast]
  simp -implicitDefEqProofs only [go_sem, ↓reduceIte, Nat.reduceEqDiff, Nat.reduceAdd, Nat.reduceMul, Nat.reduceLT, Nat.reduceLeDiff, reduceCtorEq, Int.toNat_natCast, c2]
  refine hK _ _ _ ?_; clear hE hK K E
  refine AWP.ifF (by simp -implicitDefEqProofs only [go_sem, ↓reduceIte, Nat.reduceEqDiff, Nat.reduceAdd, Nat.reduceMul, Nat.reduceLT, Nat.reduceLeDiff, reduceCtorEq, Int.toNat_natCast]) ?_; refine AWP.skip ?_; simp -implicitDefEqProofs only [go_sem, ↓reduceIte, Nat.reduceEqDiff, Nat.reduceAdd, Nat.reduceMul, Nat.reduceLT, Nat.reduceLeDiff, reduceCtorEq, Int.toNat_natCast]
  refine AWP.virt 4 (by (first | (simp -implicitDefEqProofs only [go_sem, ↓reduceIte, Nat.reduceEqDiff, Nat.reduceAdd, Nat.reduceMul, Nat.reduceLT, Nat.reduceLeDiff, reduceCtorEq, Int.toNat_natCast]; done) | (simp -implicitDefEqProofs only [go_sem, ↓reduceIte, Nat.reduceEqDiff, Nat.reduceAdd, Nat.reduceMul, Nat.reduceLT, Nat.reduceLeDiff, reduceCtorEq, Int.toNat_natCast]; rfl) | rfl)) ?_
  simp -implicitDefEqProofs only [go_sem, ↓reduceIte, Nat.reduceEqDiff, Nat.reduceAdd, Nat.reduceMul, Nat.reduceLT, Nat.reduceLeDiff, reduceCtorEq, Int.toNat_natCast]
  refine AWP.seq ?_
  refine AWP.seqReg (by kernel_rfl) (fun E K hE hK => ?_); simp -implicitDefEqProofs only [go_sem, ↓reduceIte, Nat.reduceEqDiff, Nat.reduceAdd, Nat.reduceMul, Nat.reduceLT, Nat.reduceLeDiff, reduceCtorEq, Int.toNat_natCast, hlm]; refine hK _ _ _ ?_; clear hE hK K E
  refine AWP.block ?_
  refine AWP.loopM 1 (fun m st => ∃ i, i ≤ l.length ∧ m = l.length - i ∧ tWiI l d h b i st) l.length rfl ⟨0, Nat.zero_le _, rfl, 0, 0, ⟨[], by (first | (simp -implicitDefEqProofs only [go_sem, ↓reduceIte, Nat.reduceEqDiff, Nat.reduceAdd, Nat.reduceMul, Nat.reduceLT, Nat.reduceLeDiff, reduceCtorEq, Int.toNat_natCast]; done) | (simp -implicitDefEqProofs only [go_sem, ↓reduceIte, Nat.reduceEqDiff, Nat.reduceAdd, Nat.reduceMul, Nat.reduceLT, Nat.reduceLeDiff, reduceCtorEq, Int.toNat_natCast]; rfl) | rfl), rfl, rfl⟩, (fun id (hid : id < b) => by simp -implicitDefEqProofs only [go_sem, ↓reduceIte, Nat.reduceEqDiff, Nat.reduceAdd, Nat.reduceMul, Nat.reduceLT, Nat.reduceLeDiff, reduceCtorEq, Int.toNat_natCast, show ¬ id = b by omega]), by (first | (simp -implicitDefEqProofs only [go_sem, ↓reduceIte, Nat.reduceEqDiff, Nat.reduceAdd, Nat.reduceMul, Nat.reduceLT, Nat.reduceLeDiff, reduceCtorEq, Int.toNat_natCast]; done) | (simp -implicitDefEqProofs only [go_sem, ↓reduceIte, Nat.reduceEqDiff, Nat.reduceAdd, Nat.reduceMul, Nat.reduceLT, Nat.reduceLeDiff, reduceCtorEq, Int.toNat_natCast]; rfl) | rfl), by (first | (simp -implicitDefEqProofs only [go_sem, ↓reduceIte, Nat.reduceEqDiff, Nat.reduceAdd, Nat.reduceMul, Nat.reduceLT, Nat.reduceLeDiff, reduceCtorEq, Int.toNat_natCast]; done) | (simp -implicitDefEqProofs only [go_sem, ↓reduceIte, Nat.reduceEqDiff, Nat.reduceAdd, Nat.reduceMul, Nat.reduceLT, Nat.reduceLeDiff, reduceCtorEq, Int.toNat_natCast]; rfl) | rfl), by (first | (simp -implicitDefEqProofs only [go_sem, ↓reduceIte, Nat.reduceEqDiff, Nat.reduceAdd, Nat.reduceMul, Nat.reduceLT, Nat.reduceLeDiff, reduceCtorEq, Int.toNat_natCast]; done) | (simp -implicitDefEqProofs only [go_sem, ↓reduceIte, Nat.reduceEqDiff, Nat.reduceAdd, Nat.reduceMul, Nat.reduceLT, Nat.reduceLeDiff, reduceCtorEq, Int.toNat_natCast]; rfl) | rfl), by (first | (simp -implicitDefEqProofs only [go_sem, ↓reduceIte, Nat.reduceEqDiff, Nat.reduceAdd, Nat.reduceMul, Nat.reduceLT, Nat.reduceLeDiff, reduceCtorEq, Int.toNat_natCast]; done) | (simp -implicitDefEqProofs only [go_sem, ↓reduceIte, Nat.reduceEqDiff, Nat.reduceAdd, Nat.reduceMul, Nat.reduceLT, Nat.reduceLeDiff, reduceCtorEq, Int.toNat_natCast]; rfl) | rfl), by (first | (simp -implicitDefEqProofs only [go_sem, ↓reduceIte, Nat.reduceEqDiff, Nat.reduceAdd, Nat.reduceMul, Nat.reduceLT, Nat.reduceLeDiff, reduceCtorEq, Int.toNat_natCast]; done) | (simp -implicitDefEqProofs only [go_sem, ↓reduceIte, Nat.reduceEqDiff, Nat.reduceAdd, Nat.reduceMul, Nat.reduceLT, Nat.reduceLeDiff, reduceCtorEq, Int.toNat_natCast]; rfl) | rfl)⟩ ?_
  rintro m ⟨t, hh, n⟩ ⟨i, hi, rfl, ver, cap, hr, ho, e1, e4, e24, e25, e26⟩ hn1
  simp only at hr ho e1 e4 e24 e25 e26 hn1
  subst hn1
  refine AWP.seqReg (by kernel_rfl) (fun E K hE hK => ?_); simp -implicitDefEqProofs only [go_sem, ↓reduceIte, Nat.reduceEqDiff, Nat.reduceAdd, Nat.reduceMul, Nat.reduceLT, Nat.reduceLeDiff, reduceCtorEq, Int.toNat_natCast, e25, e26]; refine hK _ _ _ ?_; clear hE hK K E
  refine AWP.seq ?_
  by_cases hlt : (i : Int) < l.length
  · have hw1 : IntKind.i64.wrap ((i : Int) + 1) = ((i + 1 : Nat) : Int) := by rw [wrap_i64 (by omega) (by omega)]; rfl
    have hi2 : i < l.length := by omega
    have hge := encF_getD l i hi2
    have htk : (l.take (i + 1)).filter (insF d) = (l.take i).filter (insF d) ++ (if insF d l[i] = true then [l[i]] else []) := by
      rw [List.take_add_one, List.filter_append, List.getElem?_eq_getElem hi2]
      cases hq : insF d l[i] <;> simp [hq]
    have hfl : ((l.take i).filter (insF d)).length ≤ 100000 := Nat.le_trans (List.length_filter_le _ _) (by rw [List.length_take]; omega)
    obtain ⟨f, hf⟩ : ∃ f, l[i] = f := ⟨_, rfl⟩
    have hfm : f ∈ l := by rw [← hf]; exact List.getElem_mem hi2
    rw [hf] at hge htk
    have hwz := within_zero hfd (hmay f hfm)
    obtain ⟨inn, er, hie⟩ : ∃ inn er, withinN d f.name = (inn, er) := ⟨_, _, rfl⟩
    rw [hie] at hwz
    simp only at hwz
    subst hwz
    have hins : insF d f = inn := by unfold insF; rw [hie]
    rw [hins] at htk
    generalize (l.take i).filter (insF d) = m at hr e4 htk hfl
    refine AWP.ifT (by simp -implicitDefEqProofs only [go_sem, ↓reduceIte, Nat.reduceEqDiff, Nat.reduceAdd, Nat.reduceMul, Nat.reduceLT, Nat.reduceLeDiff, reduceCtorEq, Int.toNat_natCast, hlt]) ?_
    refine AWP.skip ?_
    simp -implicitDefEqProofs only [go_sem, ↓reduceIte, Nat.reduceEqDiff, Nat.reduceAdd, Nat.reduceMul, Nat.reduceLT, Nat.reduceLeDiff, reduceCtorEq, Int.toNat_natCast]
    refine AWP.seq ?_
    refine AWP.block ?_
    refine AWP.seqReg (by kernel_rfl) (fun E K hE hK => ?_); simp -implicitDefEqProofs only [go_sem, ↓reduceIte, Nat.reduceEqDiff, Nat.reduceAdd, Nat.reduceMul, Nat.reduceLT, Nat.reduceLeDiff, reduceCtorEq, Int.toNat_natCast, e24, e26, hlm, hlt, hge]
    refine ⟨by omega, ?_⟩
    refine hK _ _ _ ?_; clear hE hK K E
    cases inn
    · refine AWP.seqReg (by kernel_rfl) (fun E K hE hK => ?_); simp -implicitDefEqProofs only [go_sem, ↓reduceIte, Nat.reduceEqDiff, Nat.reduceAdd, Nat.reduceMul, Nat.reduceLT, Nat.reduceLeDiff, reduceCtorEq, Int.toNat_natCast, e1]
      refine CallR.use (Within_ok (mkS d) (mkS f.name) _ _) body_44 ?_; rintro _ h_ ⟨rfl, e_⟩; rw [e_]; clear e_ h_; simp -implicitDefEqProofs only [go_sem, ↓reduceIte, Nat.reduceEqDiff, Nat.reduceAdd, Nat.reduceMul, Nat.reduceLT, Nat.reduceLeDiff, reduceCtorEq, Int.toNat_natCast]
      simp -implicitDefEqProofs only [go_sem, ↓reduceIte, Nat.reduceEqDiff, Nat.reduceAdd, Nat.reduceMul, Nat.reduceLT, Nat.reduceLeDiff, reduceCtorEq, Int.toNat_natCast, mkS_list, hie]
      refine hK _ _ _ ?_; clear hE hK K E
      refine AWP.seq ?_
      refine AWP.seqReg (by kernel_rfl) (fun E K hE hK => ?_); simp -implicitDefEqProofs only [go_sem, ↓reduceIte, Nat.reduceEqDiff, Nat.reduceAdd, Nat.reduceMul, Nat.reduceLT, Nat.reduceLeDiff, reduceCtorEq, Int.toNat_natCast]; refine hK _ _ _ ?_; clear hE hK K E
      refine AWP.ifF (by simp -implicitDefEqProofs only [go_sem, ↓reduceIte, Nat.reduceEqDiff, Nat.reduceAdd, Nat.reduceMul, Nat.reduceLT, Nat.reduceLeDiff, reduceCtorEq, Int.toNat_natCast]) ?_; refine AWP.skip ?_; simp -implicitDefEqProofs only [go_sem, ↓reduceIte, Nat.reduceEqDiff, Nat.reduceAdd, Nat.reduceMul, Nat.reduceLT, Nat.reduceLeDiff, reduceCtorEq, Int.toNat_natCast]
      refine AWP.seqReg (by kernel_rfl) (fun E K hE hK => ?_); simp -implicitDefEqProofs only [go_sem, ↓reduceIte, Nat.reduceEqDiff, Nat.reduceAdd, Nat.reduceMul, Nat.reduceLT, Nat.reduceLeDiff, reduceCtorEq, Int.toNat_natCast]; refine hK _ _ _ ?_; clear hE hK K E
      refine AWP.ifF (by simp -implicitDefEqProofs only [go_sem, ↓reduceIte, Nat.reduceEqDiff, Nat.reduceAdd, Nat.reduceMul, Nat.reduceLT, Nat.reduceLeDiff, reduceCtorEq, Int.toNat_natCast]) ?_
      refine AWP.skip ?_
      simp -implicitDefEqProofs only [go_sem, ↓reduceIte, Nat.reduceEqDiff, Nat.reduceAdd, Nat.reduceMul, Nat.reduceLT, Nat.reduceLeDiff, reduceCtorEq, Int.toNat_natCast]
      rw [if_neg (by decide), List.append_nil] at htk
      refine AWP.reg (by kernel_rfl) (fun E K hE hK => ?_); simp -implicitDefEqProofs only [go_sem, ↓reduceIte, Nat.reduceEqDiff, Nat.reduceAdd, Nat.reduceMul, Nat.reduceLT, Nat.reduceLeDiff, reduceCtorEq, Int.toNat_natCast, e26, hw1]; refine hK _ _ _ ?_; clear hE hK K E
      refine ⟨(by decide : 1 ≤ 2), l.length - (i + 1), by omega, i + 1, by omega, rfl, ver, cap, by rw [htk]; exact (hr.ne (by omega)).cut (Nat.lt_succ_self _), cutH_outer (Nat.le_succ _) (fun id (hid : id < b) => by simp -implicitDefEqProofs only [go_sem, ↓reduceIte, Nat.reduceEqDiff, Nat.reduceAdd, Nat.reduceMul, Nat.reduceLT, Nat.reduceLeDiff, reduceCtorEq, Int.toNat_natCast, show ¬ id = b by omega, show ¬ id = b + 1 by omega, ho id hid]) hlow, by simp -implicitDefEqProofs only [go_sem, ↓reduceIte, Nat.reduceEqDiff, Nat.reduceAdd, Nat.reduceMul, Nat.reduceLT, Nat.reduceLeDiff, reduceCtorEq, Int.toNat_natCast, e1], by rw [htk]; simp -implicitDefEqProofs only [go_sem, ↓reduceIte, Nat.reduceEqDiff, Nat.reduceAdd, Nat.reduceMul, Nat.reduceLT, Nat.reduceLeDiff, reduceCtorEq, Int.toNat_natCast, e4]; exact cutV_win (Nat.lt_succ_self _), by simp -implicitDefEqProofs only [go_sem, ↓reduceIte, Nat.reduceEqDiff, Nat.reduceAdd, Nat.reduceMul, Nat.reduceLT, Nat.reduceLeDiff, reduceCtorEq, Int.toNat_natCast, e24], by simp -implicitDefEqProofs only [go_sem, ↓reduceIte, Nat.reduceEqDiff, Nat.reduceAdd, Nat.reduceMul, Nat.reduceLT, Nat.reduceLeDiff, reduceCtorEq, Int.toNat_natCast, e25], by (first | (simp -implicitDefEqProofs only [go_sem, ↓reduceIte, Nat.reduceEqDiff, Nat.reduceAdd, Nat.reduceMul, Nat.reduceLT, Nat.reduceLeDiff, reduceCtorEq, Int.toNat_natCast]; done) | (simp -implicitDefEqProofs only [go_sem, ↓reduceIte, Nat.reduceEqDiff, Nat.reduceAdd, Nat.reduceMul, Nat.reduceLT, Nat.reduceLeDiff, reduceCtorEq, Int.toNat_natCast]; rfl) | rfl)⟩
    · refine AWP.seqReg (by kernel_rfl) (fun E K hE hK => ?_); simp -implicitDefEqProofs only [go_sem, ↓reduceIte, Nat.reduceEqDiff, Nat.reduceAdd, Nat.reduceMul, Nat.reduceLT, Nat.reduceLeDiff, reduceCtorEq, Int.toNat_natCast, e1]
      refine CallR.use (Within_ok (mkS d) (mkS f.name) _ _) body_44 ?_; rintro _ h_ ⟨rfl, e_⟩; rw [e_]; clear e_ h_; simp -implicitDefEqProofs only [go_sem, ↓reduceIte, Nat.reduceEqDiff, Nat.reduceAdd, Nat.reduceMul, Nat.reduceLT, Nat.reduceLeDiff, reduceCtorEq, Int.toNat_natCast]
      simp -implicitDefEqProofs only [go_sem, ↓reduceIte, Nat.reduceEqDiff, Nat.reduceAdd, Nat.reduceMul, Nat.reduceLT, Nat.reduceLeDiff, reduceCtorEq, Int.toNat_natCast, mkS_list, hie]
      refine hK _ _ _ ?_; clear hE hK K E
      refine AWP.seq ?_
      refine AWP.seqReg (by kernel_rfl) (fun E K hE hK => ?_); simp -implicitDefEqProofs only [go_sem, ↓reduceIte, Nat.reduceEqDiff, Nat.reduceAdd, Nat.reduceMul, Nat.reduceLT, Nat.reduceLeDiff, reduceCtorEq, Int.toNat_natCast]; refine hK _ _ _ ?_; clear hE hK K E
      refine AWP.ifF (by simp -implicitDefEqProofs only [go_sem, ↓reduceIte, Nat.reduceEqDiff, Nat.reduceAdd, Nat.reduceMul, Nat.reduceLT, Nat.reduceLeDiff, reduceCtorEq, Int.toNat_natCast]) ?_; refine AWP.skip ?_; simp -implicitDefEqProofs only [go_sem, ↓reduceIte, Nat.reduceEqDiff, Nat.reduceAdd, Nat.reduceMul, Nat.reduceLT, Nat.reduceLeDiff, reduceCtorEq, Int.toNat_natCast]
      refine AWP.seqReg (by kernel_rfl) (fun E K hE hK => ?_); simp -implicitDefEqProofs only [go_sem, ↓reduceIte, Nat.reduceEqDiff, Nat.reduceAdd, Nat.reduceMul, Nat.reduceLT, Nat.reduceLeDiff, reduceCtorEq, Int.toNat_natCast]; refine hK _ _ _ ?_; clear hE hK K E
      refine AWP.ifT (by simp -implicitDefEqProofs only [go_sem, ↓reduceIte, Nat.reduceEqDiff, Nat.reduceAdd, Nat.reduceMul, Nat.reduceLT, Nat.reduceLeDiff, reduceCtorEq, Int.toNat_natCast]) ?_
      rw [if_pos rfl] at htk
      have hr0 := hr
      obtain ⟨T0, hrb, _, _⟩ := hr0
      refine AWP.reg (by kernel_rfl) (fun E K hE hK => ?_); simp -implicitDefEqProofs only [go_sem, ↓reduceIte, Nat.reduceEqDiff, Nat.reduceAdd, Nat.reduceMul, Nat.reduceLT, Nat.reduceLeDiff, reduceCtorEq, Int.toNat_natCast, e4, hrb, rowB]
      refine BiR.of ?_
      refine append_fl (f := f) ((hr.ne (by omega)).ne (by omega)) (by (first | (simp -implicitDefEqProofs only [go_sem, ↓reduceIte, Nat.reduceEqDiff, Nat.reduceAdd, Nat.reduceMul, Nat.reduceLT, Nat.reduceLeDiff, reduceCtorEq, Int.toNat_natCast]; done) | (simp -implicitDefEqProofs only [go_sem, ↓reduceIte, Nat.reduceEqDiff, Nat.reduceAdd, Nat.reduceMul, Nat.reduceLT, Nat.reduceLeDiff, reduceCtorEq, Int.toNat_natCast]; rfl) | rfl)) hfl (fun cap' T' q1 q2 => ?_)
      simp -implicitDefEqProofs only [go_sem, ↓reduceIte, Nat.reduceEqDiff, Nat.reduceAdd, Nat.reduceMul, Nat.reduceLT, Nat.reduceLeDiff, reduceCtorEq, Int.toNat_natCast]
      refine hK _ _ _ ?_; clear hE hK K E
      simp -implicitDefEqProofs only [go_sem, ↓reduceIte, Nat.reduceEqDiff, Nat.reduceAdd, Nat.reduceMul, Nat.reduceLT, Nat.reduceLeDiff, reduceCtorEq, Int.toNat_natCast]
      refine AWP.reg (by kernel_rfl) (fun E K hE hK => ?_); simp -implicitDefEqProofs only [go_sem, ↓reduceIte, Nat.reduceEqDiff, Nat.reduceAdd, Nat.reduceMul, Nat.reduceLT, Nat.reduceLeDiff, reduceCtorEq, Int.toNat_natCast, e26, hw1]; refine hK _ _ _ ?_; clear hE hK K E
      have hml : (m ++ [f]).length = m.length + 1 := by simp
      refine ⟨(by decide : 1 ≤ 3), l.length - (i + 1), by omega, i + 1, by omega, rfl, ver + 1, cap', by rw [htk]; exact FlRow.cut ⟨T', by (first | (simp -implicitDefEqProofs only [go_sem, ↓reduceIte, Nat.reduceEqDiff, Nat.reduceAdd, Nat.reduceMul, Nat.reduceLT, Nat.reduceLeDiff, reduceCtorEq, Int.toNat_natCast]; done) | (simp -implicitDefEqProofs only [go_sem, ↓reduceIte, Nat.reduceEqDiff, Nat.reduceAdd, Nat.reduceMul, Nat.reduceLT, Nat.reduceLeDiff, reduceCtorEq, Int.toNat_natCast]; rfl) | rfl), by rw [hml]; exact q1, q2⟩ (Nat.lt_succ_self _), cutH_outer (Nat.le_succ _) (fun id (hid : id < b) => by simp -implicitDefEqProofs only [go_sem, ↓reduceIte, Nat.reduceEqDiff, Nat.reduceAdd, Nat.reduceMul, Nat.reduceLT, Nat.reduceLeDiff, reduceCtorEq, Int.toNat_natCast, show ¬ id = b by omega, show ¬ id = b + 1 by omega, show ¬ id = b + 2 by omega, ho id hid]) hlow, by simp -implicitDefEqProofs only [go_sem, ↓reduceIte, Nat.reduceEqDiff, Nat.reduceAdd, Nat.reduceMul, Nat.reduceLT, Nat.reduceLeDiff, reduceCtorEq, Int.toNat_natCast, e1], by rw [htk, hml]; simp -implicitDefEqProofs only [go_sem, ↓reduceIte, Nat.reduceEqDiff, Nat.reduceAdd, Nat.reduceMul, Nat.reduceLT, Nat.reduceLeDiff, reduceCtorEq, Int.toNat_natCast]; exact cutV_win (Nat.lt_succ_self _), by simp -implicitDefEqProofs only [go_sem, ↓reduceIte, Nat.reduceEqDiff, Nat.reduceAdd, Nat.reduceMul, Nat.reduceLT, Nat.reduceLeDiff, reduceCtorEq, Int.toNat_natCast, e24], by simp -implicitDefEqProofs only [go_sem, ↓reduceIte, Nat.reduceEqDiff, Nat.reduceAdd, Nat.reduceMul, Nat.reduceLT, Nat.reduceLeDiff, reduceCtorEq, Int.toNat_natCast, e25], by (first | (simp -implicitDefEqProofs only [go_sem, ↓reduceIte, Nat.reduceEqDiff, Nat.reduceAdd, Nat.reduceMul, Nat.reduceLT, Nat.reduceLeDiff, reduceCtorEq, Int.toNat_natCast]; done) | (simp -implicitDefEqProofs only [go_sem, ↓reduceIte, Nat.reduceEqDiff, Nat.reduceAdd, Nat.reduceMul, Nat.reduceLT, Nat.reduceLeDiff, reduceCtorEq, Int.toNat_natCast]; rfl) | rfl)⟩
  · refine AWP.ifF (by simp -implicitDefEqProofs only [go_sem, ↓reduceIte, Nat.reduceEqDiff, Nat.reduceAdd, Nat.reduceMul, Nat.reduceLT, Nat.reduceLeDiff, reduceCtorEq, Int.toNat_natCast, hlt]) ?_
    refine AWP.exit ?_
    simp -implicitDefEqProofs only [go_sem, ↓reduceIte, Nat.reduceEqDiff, Nat.reduceAdd, Nat.reduceMul, Nat.reduceLT, Nat.reduceLeDiff, reduceCtorEq, Int.toNat_natCast]
    have hil : i = l.length := by omega
    subst hil
    rw [List.take_length] at hr e4
    obtain ⟨T, hb, h3, h4⟩ := hr
    refine AWP.seqReg (by kernel_rfl) (fun E K hE hK => ?_); simp -implicitDefEqProofs only [go_sem, ↓reduceIte, Nat.reduceEqDiff, Nat.reduceAdd, Nat.reduceMul, Nat.reduceLT, Nat.reduceLeDiff, reduceCtorEq, Int.toNat_natCast, e4, hb, rowB]
    try refine ⟨rfl, ?_⟩
    refine hK _ _ _ ?_; clear hE hK K E
    refine AWP.frz 4 (cap := cap) (len := (l.filter (insF d)).length) (off := 0) (id := b) 6 ((l.filter (insF d)).map encF) (by (first | (simp -implicitDefEqProofs only [go_sem, ↓reduceIte, Nat.reduceEqDiff, Nat.reduceAdd, Nat.reduceMul, Nat.reduceLT, Nat.reduceLeDiff, reduceCtorEq, Int.toNat_natCast]; done) | (simp -implicitDefEqProofs only [go_sem, ↓reduceIte, Nat.reduceEqDiff, Nat.reduceAdd, Nat.reduceMul, Nat.reduceLT, Nat.reduceLeDiff, reduceCtorEq, Int.toNat_natCast]; rfl) | rfl)) hb rfl (by rw [List.length_map]) (okEs_fl _).len (row_cells (okEs_fl _) ver _) ?_
    refine AWP.ret ?_
    simp -implicitDefEqProofs only [go_sem, ↓reduceIte, Nat.reduceEqDiff, Nat.reduceAdd, Nat.reduceMul, Nat.reduceLT, Nat.reduceLeDiff, reduceCtorEq, Int.toNat_natCast]
    exact fin2 _ _ _ (l.filter (insF d)) (by (first | (simp -implicitDefEqProofs only [go_sem, ↓reduceIte, Nat.reduceEqDiff, Nat.reduceAdd, Nat.reduceMul, Nat.reduceLT, Nat.reduceLeDiff, reduceCtorEq, Int.toNat_natCast]; done) | (simp -implicitDefEqProofs only [go_sem, ↓reduceIte, Nat.reduceEqDiff, Nat.reduceAdd, Nat.reduceMul, Nat.reduceLT, Nat.reduceLeDiff, reduceCtorEq, Int.toNat_natCast]; rfl) | rfl)) (by (first | (simp -implicitDefEqProofs only [go_sem, ↓reduceIte, Nat.reduceEqDiff, Nat.reduceAdd, Nat.reduceMul, Nat.reduceLT, Nat.reduceLeDiff, reduceCtorEq, Int.toNat_natCast]; done) | (simp -implicitDefEqProofs only [go_sem, ↓reduceIte, Nat.reduceEqDiff, Nat.reduceAdd, Nat.reduceMul, Nat.reduceLT, Nat.reduceLeDiff, reduceCtorEq, Int.toNat_natCast]; rfl) | rfl)) (fun id (hid : id < b) => by simp -implicitDefEqProofs only [go_sem, ↓reduceIte, Nat.reduceEqDiff, Nat.reduceAdd, Nat.reduceMul, Nat.reduceLT, Nat.reduceLeDiff, reduceCtorEq, Int.toNat_natCast, delH, show ¬ id = b by omega]; exact ho id hid) hwr.symm

end Go.Proofs.YtengjcdilnikhaaDoor
