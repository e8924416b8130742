/-
  Walk of package table: Within.
-/
import Derived.Test.YtengjcdilnikhaaDoorTbW6
namespace Go.Proofs.YtengjcdilnikhaaDoor
set_option linter.unusedSimpArgs false
set_option linter.unusedVariables false
set_option linter.unnecessarySimpa false
open Go Am
set_option maxRecDepth 100000

/-! ### plain -/
theorem join_x (d : S) : (joinN d [120]).2 = 1 ↔ folN d ≠ 0 := by
  unfold joinN
  by_cases h : folN d = 0
  · rw [if_neg (by simp [h])]
    refine ⟨fun e => absurd e ?_, fun e => absurd h e⟩
    rcases folN_zero.1 h with rfl | hc
    · decide
    · obtain ⟨h1, h2, h3⟩ := hc
      have hlen : (d ++ 47 :: [120]).length = d.length + 2 := by simp
      by_cases hl : 96 < (d ++ 47 :: [120]).length
      · have hf : fitsX (d ++ 47 :: [120]) = 3 := by unfold fitsX; rw [if_pos hl]
        unfold cleanX
        rw [if_pos (by rw [hf]; decide), hf]; decide
      · have hcl : Cln (d ++ 47 :: [120]) := by
          refine ⟨by omega, fun c hc => ?_, ?_⟩
          · rcases List.mem_append.1 hc with hc | hc
            · exact h2 c hc
            · simp at hc; rcases hc with rfl | rfl <;> rfl
          · rw [parts_app]
            intro q hq
            rcases List.mem_append.1 hq with hq | hq
            · exact h3 q hq
            · have e : parts [120] = [[120]] := by decide
              rw [e] at hq
              simp at hq; subst hq; decide
        rw [cleanX_self.2 hcl]; exact (by decide : ¬ (0 : Int) = 1)
  · rw [if_pos h]
    refine ⟨fun _ => h, fun _ => ?_⟩
    unfold folN at h ⊢
    split
    · rename_i hd; rw [if_pos hd] at h; exact absurd rfl h
    · rename_i hd; rw [if_neg hd] at h; rcases chkN_or d with e | e
      · exact absurd e h
      · exact e

abbrev insF (d : S) (f : Fl) : Bool := (withinN d f.name).1
def withR (l : List Fl) (d : S) : List Fl × Int := if folN d ≠ 0 ∨ checkT l ≠ 0 then ([], 1) else (l.filter (insF d), 0)
theorem within_zero {d : S} {f : Fl} (hd : folN d = 0) (hf : mayF f = true) : (withinN d f.name).2 = 0 := by
  rw [withinN_ok (folN_zero.1 hd) (chkN_zero.1 (mayF_chk hf))]

def tWiI (l : List Fl) (d : S) (h : Heap) (b i : Nat) (st : St) : Prop :=
  ∃ ver cap, FlRow st.h b ver cap ((l.take i).filter (insF d)) ∧ (∀ id, id < b → st.h id = h id) ∧ st.t 1 = StrV d ∧ st.t 4 = .one (.win b ver 0 ((l.take i).filter (insF d)).length cap) ∧ st.t 24 = FlsV l ∧ st.t 25 = IntV l.length ∧ st.t 26 = IntV (i : Nat)

theorem tWithinO_ok (l : List Fl) (d : S) (hl : l.length ≤ 100000) (h : Heap) (b : Nat) :
    ACalls Tryd.prog 43 [FlsV l, StrV d] h b 1 (ownT (withR l d) h b) := by
  refine ACalls.enter Tryd.func43 rfl (by simp [Tryd.ntmps43]) (fun ι w hn H => ?_)
  have hlow := H.lowCells
  have hlm : (l.map encF).length = l.length := List.length_map _
  have fin : ∀ (t : Nat → AV) (hh : Heap) (n : Nat) (ver cap : Nat) (T : List Cell) (m : List Fl) (id : Nat) (e : Int), t 4 = .one (.win id ver 0 m.length cap) → t 5 = IntV e → hh id = some (rowB ver (m.map encF) T) → b ≤ id → (∀ id, id < b → hh id = h id) → (m, e) = withR l d → m.length ≤ cap → cap * 6 = m.length * 6 + T.length → lowCs 0 T = true → Am.Ends Tryd.prog ⟨Tryd.f43.ntmps, b, ι, h, w, x0⟩ Tryd.f43 1 (ownT (withR l d) h b) ⟨t, hh, n⟩ := by
    intro t hh n ver cap T m id e ht ht2 hb hid ho hv q1 q2 q3
    refine Ends.row (id := id) (blk := rowB ver (m.map encF) T) hn H ho hid hb (lowCs_app (lowCs_p _ _) (lowCs_mono (Nat.zero_le _) q3)) (r0 := .tup [.one (.win id ver 0 m.length cap), IntV e]) (by rw [show Tryd.f43.results.toList = [.tmp 4, .tmp 5] from rfl]; exact Ecf (jn2 @ht @ht2)) (renV_tup2 (renV.win0 _ _ _ _) (renV.v _)) ?_
    rw [← hv]
    exact ⟨ver, cap, T, q1, q2, q3, rfl, rfl⟩
  obtain ⟨ja, je, hj⟩ : ∃ ja je, joinN d [120] = (ja, je) := ⟨_, _, rfl⟩
  have hjx := join_x d
  rw [hj] at hjx
  simp only at hjx
  have cj : ∀ b' : Nat, ACalls Tryd.prog 81 [StrV d, .one (.p (.v (.string ⟨#[120]⟩)))] h b' 0 (fun r h' => r = .tup [StrV ja, IntV je] ∧ h' = h) := by
    intro b'
    have c := Join_ok (mkS d) (mkS [120]) (by rw [mkS_size]; decide) h b'
    rw [show bl (mkS d) = d from rfl, show bl (mkS [120]) = [120] from rfl, hj] at c
    exact c
  refine Rk ?_
  refine AWP.seq ?_
  refine Rg (fun E K hE hK => ?_)
  refine Us (cj _) body_81 ?_
  refine hK _ _ _ ?_; clear hE hK K E
  by_cases c1 : je = 1
  · subst c1
    refine Rk ?_
    refine Bt ?_
    refine Rk ?_
    refine AWP.virt 4 (by exact Er) ?_
    refine AWP.ret ?_
    refine Ev ?_
    exact fin _ _ _ 0 0 [] [] b 1 (by exact Er) (by exact Er) (by exact Er) (Nat.le_refl _) Ou (by unfold withR; rw [if_pos (.inl (hjx.1 rfl))]) (Nat.le_refl _) rfl rfl
  have hfd : folN d = 0 := by
    by_cases q : folN d = 0
    · exact q
    · exact absurd (hjx.2 q) c1
  by_cases c2 : checkT l = 0
  case neg =>
    refine Rgf @c1 (fun E K hE hK => ?_)
    refine Us (tCheck_ok l (by omega) _ _) body_39 ?_
    refine Evf @c2 ?_
    refine hK _ _ _ ?_; clear hE hK K E
    refine Bt ?_
    refine Rk ?_
    refine AWP.virt 4 (by exact Er) ?_
    refine AWP.ret ?_
    refine Ev ?_
    exact fin _ _ _ 0 0 [] [] b 1 (by exact Er) (by exact Er) (by exact Er) (Nat.le_refl _) Ou (by unfold withR; rw [if_pos (.inr c2)]) (Nat.le_refl _) rfl rfl
  have hwr : withR l d = (l.filter (insF d), 0) := by unfold withR; rw [if_neg (by simp [hfd, c2])]
  have hmay := tabF_may (checkT_zero.1 c2).2
  refine Rgf @c1 (fun E K hE hK => ?_)
  refine Us (tCheck_ok l (by omega) _ _) body_39 ?_
  refine Evf @c2 ?_
  refine hK _ _ _ ?_; clear hE hK K E
  refine Bs ?_
  refine AWP.virt 4 (by exact Er) ?_
  refine Ev ?_
  refine AWP.seq ?_
  refine Rkf @hlm ?_
  refine AWP.block ?_
  refine AWP.loopM 1 (fun m st => ∃ i, i ≤ l.length ∧ m = l.length - i ∧ tWiI l d h b i st) l.length rfl ⟨0, Nat.zero_le _, rfl, 0, 0, ⟨[], by exact Er, rfl, rfl⟩, Ou, by exact Er, by exact Er, by exact Er, by exact Er, by exact Er⟩ ?_
  rintro m ⟨t, hh, n⟩ ⟨i, hi, rfl, ver, cap, hr, ho, e1, e4, e24, e25, e26⟩ hn1
  simp only at hr ho e1 e4 e24 e25 e26 hn1
  subst hn1
  refine Rkf (jn2 @e25 @e26) ?_
  refine AWP.seq ?_
  by_cases hlt : (i : Int) < l.length
  · have hw1 : IntKind.i64.wrap ((i : Int) + 1) = ((i + 1 : Nat) : Int) := by rw [wrap_i64 (by omega) (by omega)]; rfl
    have hi2 : i < l.length := by omega
    have hge := encF_getD l i hi2
    have htk : (l.take (i + 1)).filter (insF d) = (l.take i).filter (insF d) ++ (if insF d l[i] = true then [l[i]] else []) := by
      rw [List.take_add_one, List.filter_append, List.getElem?_eq_getElem hi2]
      cases hq : insF d l[i] <;> simp [hq]
    have hfl : ((l.take i).filter (insF d)).length ≤ 100000 := Nat.le_trans (List.length_filter_le _ _) (by rw [List.length_take]; omega)
    obtain ⟨f, hf⟩ : ∃ f, l[i] = f := ⟨_, rfl⟩
    have hfm : f ∈ l := by rw [← hf]; exact List.getElem_mem hi2
    rw [hf] at hge htk
    have hwz := within_zero hfd (hmay f hfm)
    obtain ⟨inn, er, hie⟩ : ∃ inn er, withinN d f.name = (inn, er) := ⟨_, _, rfl⟩
    rw [hie] at hwz
    simp only at hwz
    subst hwz
    have hins : insF d f = inn := by unfold insF; rw [hie]
    rw [hins] at htk
    generalize (l.take i).filter (insF d) = m at hr e4 htk hfl
    refine Btf @hlt ?_
    refine AWP.skip ?_
    refine Ev ?_
    refine AWP.seq ?_
    refine AWP.block ?_
    refine Rgf (jn5 @e24 @e26 @hlm @hlt @hge) (fun E K hE hK => ?_)
    refine ⟨by omega, ?_⟩
    refine hK _ _ _ ?_; clear hE hK K E
    cases inn
    · refine Rgf @e1 (fun E K hE hK => ?_)
      refine Us (Within_ok (mkS d) (mkS f.name) _ _) body_44 ?_
      refine Evf (jn2 @mkS_list @hie) ?_
      refine hK _ _ _ ?_; clear hE hK K E
      refine AWP.seq ?_
      refine Rk ?_
      refine Bs ?_
      refine Rk ?_
      refine Bf ?_
      refine AWP.skip ?_
      refine Ev ?_
      rw [if_neg (by decide), List.append_nil] at htk
      refine Raf (jn2 @e26 @hw1) (fun E K hE hK => ?_); refine hK _ _ _ ?_; clear hE hK K E
      refine ⟨(by decide : 1 ≤ 2), l.length - (i + 1), by omega, i + 1, by omega, rfl, ver, cap, by rw [htk]; exact (hr.ne (by omega)).cut (Nat.lt_succ_self _), cutH_outer (Nat.le_succ _) (Ouf @ho) hlow, by exact Ecf @e1, by rw [htk]; refine Evf @e4 ?_; exact cutV_win (Nat.lt_succ_self _), by exact Ecf @e24, by exact Ecf @e25, by exact Er⟩
    · refine Rgf @e1 (fun E K hE hK => ?_)
      refine Us (Within_ok (mkS d) (mkS f.name) _ _) body_44 ?_
      refine Evf (jn2 @mkS_list @hie) ?_
      refine hK _ _ _ ?_; clear hE hK K E
      refine AWP.seq ?_
      refine Rk ?_
      refine Bs ?_
      refine Rk ?_
      refine Bt ?_
      rw [if_pos rfl] at htk
      have hr0 := hr
      obtain ⟨T0, hrb, _, _⟩ := hr0
      refine AWP.reg (by kernel_rfl) (fun E K hE hK => ?_); simp -implicitDefEqProofs only [go_sem, ↓reduceIte, Nat.reduceEqDiff, Nat.reduceAdd, Nat.reduceLT, Nat.reduceLeDiff, reduceCtorEq, Int.toNat_natCast, e4, hrb, rowB]
      refine BiR.of ?_
      refine append_fl (f := f) ((hr.ne (by omega)).ne (by omega)) (by exact Er) hfl (fun cap' T' q1 q2 => ?_)
      refine Ev ?_
      refine hK _ _ _ ?_; clear hE hK K E
      refine Ev ?_
      refine Raf (jn2 @e26 @hw1) (fun E K hE hK => ?_); refine hK _ _ _ ?_; clear hE hK K E
      have hml : (m ++ [f]).length = m.length + 1 := by simp
      refine ⟨(by decide : 1 ≤ 3), l.length - (i + 1), by omega, i + 1, by omega, rfl, ver + 1, cap', by rw [htk]; exact FlRow.cut ⟨T', by exact Er, by rw [hml]; exact q1, q2⟩ (Nat.lt_succ_self _), cutH_outer (Nat.le_succ _) (Ouf @ho) hlow, by exact Ecf @e1, by rw [htk, hml]; refine Ev ?_; exact cutV_win (Nat.lt_succ_self _), by exact Ecf @e24, by exact Ecf @e25, by exact Er⟩
  · refine Bff @hlt ?_
    refine AWP.exit ?_
    refine Ev ?_
    have hil : i = l.length := by omega
    subst hil
    rw [List.take_length] at hr e4
    obtain ⟨T, hb, h3, h4⟩ := hr
    refine AWP.seqReg (by kernel_rfl) (fun E K hE hK => ?_); simp -implicitDefEqProofs only [go_sem, ↓reduceIte, Nat.reduceEqDiff, Nat.reduceAdd, Nat.reduceLT, Nat.reduceLeDiff, reduceCtorEq, Int.toNat_natCast, e4, hb, rowB]
    try refine ⟨rfl, ?_⟩
    refine hK _ _ _ ?_; clear hE hK K E
    refine AWP.ret ?_
    refine Ev ?_
    exact fin _ _ _ ver cap T (l.filter (insF d)) b 0 (by exact Erf @e4) (by exact Er) hb (Nat.le_refl _) ho hwr.symm (by omega) (by omega) h4

theorem tWithin_ok (l : List Fl) (d : S) (hl : l.length ≤ 100000) (h : Heap) (b : Nat) :
    ACalls Tryd.prog 43 [FlsV l, StrV d] h b 0 (fun r h' => r = .tup [FlsV (withR l d).1, IntV (withR l d).2] ∧ h' = h) := ownT_frz (tWithinO_ok l d hl h b)

end Go.Proofs.YtengjcdilnikhaaDoor
