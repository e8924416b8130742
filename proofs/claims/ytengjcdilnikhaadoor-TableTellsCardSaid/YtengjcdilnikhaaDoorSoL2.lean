/-
  Walk of the law TableTells.
-/
import Derived.Test.YtengjcdilnikhaaDoorSoB1
import Derived.Test.YtengjcdilnikhaaDoorAmRange
namespace Go.Proofs.YtengjcdilnikhaaDoor
set_option linter.unusedSimpArgs false
set_option linter.unusedVariables false
set_option linter.unnecessarySimpa false
open Go Am So
set_option maxRecDepth 100000

/-! ### the reference's Within -/
def rtwI (l : List Fl) (d : S) (h : Heap) (b i : Nat) (st : St) : Prop :=
  ∃ ver cap, FlRow st.h b ver cap ((l.take i).filter (insF d)) ∧ (∀ id, id < b → st.h id = h id) ∧ st.t 1 = StrV d ∧ st.t 6 = .one (.win b ver 0 ((l.take i).filter (insF d)).length cap) ∧ st.t 19 = FlsV l ∧ st.t 20 = IntV l.length ∧ st.t 21 = IntV (i : Nat)

theorem rWithinT_ok (l : List Fl) (d : S) (hl : l.length ≤ 100000) (hs : ∀ f ∈ l, f.name.length ≤ 1000) (hd : d.length ≤ 1000) (h : Heap) (b : Nat) :
    ACalls Tryd.prog 55 [FlsV l, StrV d] h b 0 (fun r h' => r = .tup [FlsV (withR l d).1, IntV (withR l d).2] ∧ h' = h) := by
  refine ACalls.enter Tryd.func55 rfl (by simp [Tryd.ntmps55]) (fun ι w hn H => ?_)
  have hlow := H.lowCells
  have hlm : (l.map encF).length = l.length := List.length_map _
  have hds : (mkS d).size ≤ 1000 := by rw [mkS_size]; exact hd
  have fin : ∀ (t : Nat → AV) (hh : Heap) (n : Nat) (e : Int), t 4 = .one (.p (.v (.slice none 0 0))) → t 5 = IntV e → (∀ id, id < b → hh id = h id) → ([], e) = withR l d → Am.Ends Tryd.prog ⟨Tryd.f55.ntmps, b, ι, h, w, x0⟩ Tryd.f55 0 (fun r h' => r = .tup [FlsV (withR l d).1, IntV (withR l d).2] ∧ h' = h) ⟨t, hh, n⟩ := by
    intro t hh n e ht ht2 ho hv
    exact Ends.pure hn H ho (r0 := .tup [.one (.p (.v (.slice none 0 0))), IntV e]) (by rw [show Tryd.f55.results.toList = [.tmp 4, .tmp 5] from rfl]; exact Ecf (jn2 @ht @ht2)) (frz_tup2 (.one (frz_nil 6)) (.v _)) ⟨by rw [← hv]; rfl, rfl⟩
  have fin2 : ∀ (t : Nat → AV) (hh : Heap) (n : Nat) (m : List Fl), t 4 = FlsV m → t 5 = IntV 0 → (∀ id, id < b → hh id = h id) → (m, 0) = withR l d → Am.Ends Tryd.prog ⟨Tryd.f55.ntmps, b, ι, h, w, x0⟩ Tryd.f55 0 (fun r h' => r = .tup [FlsV (withR l d).1, IntV (withR l d).2] ∧ h' = h) ⟨t, hh, n⟩ := by
    intro t hh n m ht ht2 ho hv
    exact Ends.pure hn H ho (r0 := .tup [FlsV m, IntV 0]) (by rw [show Tryd.f55.results.toList = [.tmp 4, .tmp 5] from rfl]; exact Ecf (jn2 @ht @ht2)) (frz_tup2 (frzV.p _) (.v _)) ⟨by rw [← hv], rfl⟩
  refine Rk ?_
  refine AWP.seq ?_
  by_cases c2 : checkT l = 0
  case neg =>
    have c3 := checkT_one c2
    refine Rg (fun E K hE hK => ?_)
    refine Us (rCheckT_ok l (by omega) hs _ _) body_51 ?_
    refine Evf @c3 ?_
    refine hK _ _ _ ?_; clear hE hK K E
    refine Bt ?_
    refine Rk ?_
    refine AWP.ret ?_
    refine Ev ?_
    exact fin _ _ _ 1 (by exact Er) (by exact Er) (fun _ _ => rfl) (by unfold withR; rw [if_pos (.inr c2)])
  by_cases hfd : folN d = 0
  case neg =>
    refine Rg (fun E K hE hK => ?_)
    refine Us (rCheckT_ok l (by omega) hs _ _) body_51 ?_
    refine Evf @c2 ?_
    refine Us (rFolder_ok (mkS d) hds _ _) body_97 ?_
    refine Evf (jn2 @mkS_list @hfd) ?_
    refine hK _ _ _ ?_; clear hE hK K E
    refine Bt ?_
    refine Rk ?_
    refine AWP.ret ?_
    refine Ev ?_
    exact fin _ _ _ 1 (by exact Er) (by exact Er) (fun _ _ => rfl) (by unfold withR; rw [if_pos (.inl hfd)])
  have hwr : withR l d = (l.filter (insF d), 0) := by unfold withR; rw [if_neg (by simp [hfd, c2])]
  have hmay := tabF_may (checkT_zero.1 c2).2
  have hfd' : (folN d = 0) = True := eq_true hfd
  refine Rg (fun E K hE hK => ?_)
  refine Us (rCheckT_ok l (by omega) hs _ _) body_51 ?_
  refine Evf @c2 ?_
  refine Us (rFolder_ok (mkS d) hds _ _) body_97 ?_
  refine Evf (jn2 @mkS_list @hfd') ?_
  refine hK _ _ _ ?_; clear hE hK K E
  refine Bs ?_
  refine Rk ?_
  refine AWP.virt 6 (by exact Er) ?_
  refine Ev ?_
  refine AWP.seq ?_
  refine Rkf @hlm ?_
  refine AWP.block ?_
  refine AWP.loopM 1 (fun m st => ∃ i, i ≤ l.length ∧ m = l.length - i ∧ rtwI l d h b i st) l.length rfl ⟨0, Nat.zero_le _, rfl, 0, 0, ⟨[], by exact Er, rfl, rfl⟩, Ou, by exact Er, by exact Er, by exact Er, by exact Er, by exact Er⟩ ?_
  rintro m ⟨t, hh, n⟩ ⟨i, hi, rfl, ver, cap, hr, ho, e1, e4, e24, e25, e26⟩ hn1
  simp only at hr ho e1 e4 e24 e25 e26 hn1
  subst hn1
  refine Rkf (jn2 @e25 @e26) ?_
  refine AWP.seq ?_
  by_cases hlt : (i : Int) < l.length
  · have hw1 : IntKind.i64.wrap ((i : Int) + 1) = ((i + 1 : Nat) : Int) := by rw [wrap_i64 (by omega) (by omega)]; rfl
    have hi2 : i < l.length := by omega
    have hge := encF_getD l i hi2
    have htk : (l.take (i + 1)).filter (insF d) = (l.take i).filter (insF d) ++ (if insF d l[i] = true then [l[i]] else []) := by
      rw [List.take_add_one, List.filter_append, List.getElem?_eq_getElem hi2]
      cases hq : insF d l[i] <;> simp [hq]
    have hfl : ((l.take i).filter (insF d)).length ≤ 100000 := Nat.le_trans (List.length_filter_le _ _) (by rw [List.length_take]; omega)
    obtain ⟨f, hf⟩ : ∃ f, l[i] = f := ⟨_, rfl⟩
    have hfm : f ∈ l := by rw [← hf]; exact List.getElem_mem hi2
    have hfs : (mkS f.name).size ≤ 1000 := by rw [mkS_size]; exact hs f hfm
    rw [hf] at hge htk
    have hwz := within_zero hfd (hmay f hfm)
    obtain ⟨inn, er, hie⟩ : ∃ inn er, withinN d f.name = (inn, er) := ⟨_, _, rfl⟩
    rw [hie] at hwz
    simp only at hwz
    subst hwz
    have hins : insF d f = inn := by unfold insF; rw [hie]
    rw [hins] at htk
    generalize (l.take i).filter (insF d) = m at hr e4 htk hfl
    refine Btf @hlt ?_
    refine AWP.skip ?_
    refine Ev ?_
    refine AWP.seq ?_
    refine AWP.block ?_
    refine Rgf (jn5 @e24 @e26 @hlm @hlt @hge) (fun E K hE hK => ?_)
    refine ⟨by omega, ?_⟩
    refine hK _ _ _ ?_; clear hE hK K E
    cases inn
    · refine Rgf @e1 (fun E K hE hK => ?_)
      refine Us (rWithin_ok (mkS d) (mkS f.name) hds hfs _ _) body_98 ?_
      refine Evf (jn2 @mkS_list @hie) ?_
      refine hK _ _ _ ?_; clear hE hK K E
      refine Rk ?_
      refine Bf ?_
      refine AWP.skip ?_
      refine Ev ?_
      rw [if_neg (by decide), List.append_nil] at htk
      refine Raf (jn2 @e26 @hw1) (fun E K hE hK => ?_); refine hK _ _ _ ?_; clear hE hK K E
      refine ⟨(by decide : 1 ≤ 2), l.length - (i + 1), by omega, i + 1, by omega, rfl, ver, cap, by rw [htk]; exact (hr.ne (by omega)).cut (Nat.lt_succ_self _), cutH_outer (Nat.le_succ _) (Ouf @ho) hlow, by exact Ecf @e1, by rw [htk]; refine Evf @e4 ?_; exact cutV_win (Nat.lt_succ_self _), by exact Ecf @e24, by exact Ecf @e25, by exact Er⟩
    · refine Rgf @e1 (fun E K hE hK => ?_)
      refine Us (rWithin_ok (mkS d) (mkS f.name) hds hfs _ _) body_98 ?_
      refine Evf (jn2 @mkS_list @hie) ?_
      refine hK _ _ _ ?_; clear hE hK K E
      refine Rk ?_
      refine Bt ?_
      rw [if_pos rfl] at htk
      have hr0 := hr
      obtain ⟨T0, hrb, _, _⟩ := hr0
      refine AWP.reg (by kernel_rfl) (fun E K hE hK => ?_); simp -implicitDefEqProofs only [go_sem, ↓reduceIte, Nat.reduceEqDiff, Nat.reduceAdd, Nat.reduceLT, Nat.reduceLeDiff, reduceCtorEq, Int.toNat_natCast, e4, hrb, rowB]
      refine BiR.of ?_
      refine append_fl (f := f) ((hr.ne (by omega)).ne (by omega)) (by exact Er) hfl (fun cap' T' q1 q2 => ?_)
      refine Ev ?_
      refine hK _ _ _ ?_; clear hE hK K E
      refine Ev ?_
      refine Raf (jn2 @e26 @hw1) (fun E K hE hK => ?_); refine hK _ _ _ ?_; clear hE hK K E
      have hml : (m ++ [f]).length = m.length + 1 := by simp
      refine ⟨(by decide : 1 ≤ 3), l.length - (i + 1), by omega, i + 1, by omega, rfl, ver + 1, cap', by rw [htk]; exact FlRow.cut ⟨T', by exact Er, by rw [hml]; exact q1, q2⟩ (Nat.lt_succ_self _), cutH_outer (Nat.le_succ _) (Ouf @ho) hlow, by exact Ecf @e1, by rw [htk, hml]; refine Ev ?_; exact cutV_win (Nat.lt_succ_self _), by exact Ecf @e24, by exact Ecf @e25, by exact Er⟩
  · refine Bff @hlt ?_
    refine AWP.exit ?_
    refine Ev ?_
    have hil : i = l.length := by omega
    subst hil
    rw [List.take_length] at hr e4
    obtain ⟨T, hb, h3, h4⟩ := hr
    refine AWP.seqReg (by kernel_rfl) (fun E K hE hK => ?_); simp -implicitDefEqProofs only [go_sem, ↓reduceIte, Nat.reduceEqDiff, Nat.reduceAdd, Nat.reduceLT, Nat.reduceLeDiff, reduceCtorEq, Int.toNat_natCast, e4, hb, rowB]
    try refine ⟨rfl, ?_⟩
    refine hK _ _ _ ?_; clear hE hK K E
    refine AWP.frz 4 (cap := cap) (len := (l.filter (insF d)).length) (off := 0) (id := b) 6 ((l.filter (insF d)).map encF) (by exact Er) hb rfl (by rw [List.length_map]) (okEs_fl _).len (row_cells (okEs_fl _) ver _) ?_
    refine AWP.ret ?_
    refine Ev ?_
    exact fin2 _ _ _ (l.filter (insF d)) (by exact Er) (by exact Er) (fun id (hid : id < b) => by simp -implicitDefEqProofs only [go_sem, ↓reduceIte, Nat.reduceEqDiff, Nat.reduceAdd, Nat.reduceLT, Nat.reduceLeDiff, reduceCtorEq, Int.toNat_natCast, delH, show ¬ id = b by omega]; exact ho id hid) hwr.symm

theorem best_eq {l : List Fl} (h : ∀ f ∈ l, f.rank < 18446744073709551616) : bestR kD l = bestR kB l := by
  unfold bestR
  split
  · rfl
  · obtain ⟨s1, s2, _⟩ := srtS_ok kB l
    have hk : ∀ x ∈ srtS kB l, kD x = kB x := fun x hx => by
      show - keyD x.rank = - keyR x.rank
      rw [key_eq _ (h x ((s2.mem x).2 hx))]
    rw [← srtS_unique (k := kD) (l := l) (q := srtS kB l) ?_ ?_]
    · exact s1.imp_of_mem (fun {x y} hx hy hxy => by rw [hk x hx, hk y hy]; exact hxy)
    · intro c
      rw [List.filter_congr (q := fun x => decide (kB x = c)) (fun x hx => by rw [hk x ((s2.mem x).1 hx)]), s2 c]
      exact (List.filter_congr (fun x hx => by rw [hk x hx])).symm
theorem bestR_len (k : Fl → Int) (l : List Fl) : (bestR k l).1.length ≤ l.length := by
  unfold bestR
  split
  · exact Nat.zero_le _
  · exact Nat.le_of_eq (srtS_ok k l).2.2
theorem withR_len (l : List Fl) (d : S) : (withR l d).1.length ≤ l.length := by
  unfold withR
  split
  · exact Nat.zero_le _
  · exact List.length_filter_le _ _

/-- what is kept while the law writes -/
def tells (b : Nat) (h : Heap) (l m1 m2 : List Fl) (v1 v2 k1 k2 : Nat) (T1 T2 : List Cell) (st : St) : Prop :=
  st.n = 3 ∧ (∃ r1 r2 : List Fl, r1.length = m1.length ∧ r2.length = m2.length ∧ st.h (b + 1) = some (rowB v1 (r1.map encF) T1) ∧ st.h (b + 2) = some (rowB v2 (r2.map encF) T2)) ∧
  (∀ id, id < b → st.h id = h id) ∧ st.t 0 = FlsV l ∧ st.t 5 = BoolV true ∧ st.t 6 = FlsV l ∧ st.t 7 = .one (.win (b + 1) v1 0 m1.length k1) ∧ st.t 11 = .one (.win (b + 2) v2 0 m2.length k2) ∧ st.t 15 = BoolV true

theorem TableTells_ok (l : List Fl) (d : S) (hl : l.length ≤ maxLen) (hd : d.length ≤ maxLen) (hr1 : ∀ f ∈ l, f.rank < 18446744073709551616) (h : Heap) (b : Nat) :
    ACalls Tryd.prog 14 [FlsV l, StrV d] h b 0 (fun r h' => r = BoolV true ∧ h' = h) := by
  refine ACalls.enter Tryd.func14 rfl (by simp [Tryd.ntmps14]) (fun ι w hn H => ?_)
  have hmx : maxLen ≤ 9223372036854775807 := by decide
  have hlm : (l.map encF).length = l.length := List.length_map _
  have s1 := mkS_size d
  have fin : ∀ (t : Nat → AV) (hh : Heap) (n : Nat), t 4 = BoolV true → (∀ id, id < b → hh id = h id) → Am.Ends Tryd.prog ⟨Tryd.f14.ntmps, b, ι, h, w, x0⟩ Tryd.f14 0 (fun r h' => r = BoolV true ∧ h' = h) ⟨t, hh, n⟩ := by
    intro t hh n ht ho
    exact Ends.pure hn H ho (r0 := BoolV true) (by rw [show Tryd.f14.results.toList = [.tmp 4] from rfl]; exact Ecf @ht) (.v _) ⟨rfl, rfl⟩
  refine Rk ?_
  refine Rg (fun E K hE hK => ?_)
  refine Us (live_ok _ _) body_34 ?_
  refine hK _ _ _ ?_; clear hE hK K E
  refine AWP.seq ?_
  cases c1 : fewT l
  · refine Rg (fun E K hE hK => ?_)
    refine Us (fewT_ok l (by omega) _ _) body_41 ?_
    refine Evf @c1 ?_
    refine hK _ _ _ ?_; clear hE hK K E
    refine Bt ?_
    refine Rk ?_
    refine AWP.ret ?_
    refine Ev ?_
    exact fin _ _ _ (by exact Er) Ou
  by_cases c2 : (200 : Int) < d.length
  · refine Rg (fun E K hE hK => ?_)
    refine Us (fewT_ok l (by omega) _ _) body_41 ?_
    refine Evf (jn3 @c1 @s1 @c2) ?_
    refine hK _ _ _ ?_; clear hE hK K E
    refine Bt ?_
    refine Rk ?_
    refine AWP.ret ?_
    refine Ev ?_
    exact fin _ _ _ (by exact Er) Ou
  refine Rg (fun E K hE hK => ?_)
  refine Us (fewT_ok l (by omega) _ _) body_41 ?_
  refine Evf (jn3 @c1 @s1 @c2) ?_
  refine hK _ _ _ ?_; clear hE hK K E
  refine Bs ?_
  obtain ⟨hl2, hs⟩ := fewT_size c1
  have hds : d.length ≤ 1000 := by omega
  refine Rg (fun E K hE hK => ?_)
  refine BiR.of ?_
  refine appN_fl (m := l.length) (fs := l.map encF) (okEs_fl l) (by simp [srcA]) hlm.symm (by omega) (fun cap0 T0 g1 g2 => ?_)
  refine Ev ?_
  refine hK _ _ _ ?_; clear hE hK K E
  refine AWP.frzRow 6 (id := b) (ver := 1) (cap := cap0) (sz := 6) (es := l.map encF) (by exact Er) (RowAt.new g1 g2) (okEs_fl l) hlm ?_
  obtain ⟨H2, hH2⟩ : ∃ H2, delH (upd h b (rowB 1 (l.map encF) T0)) b = H2 := ⟨_, rfl⟩
  have hO2 : ∀ id, id < b → H2 id = h id := by rw [← hH2]; exact (fun id (hid : id < b) => by simp -implicitDefEqProofs only [go_sem, ↓reduceIte, Nat.reduceEqDiff, Nat.reduceAdd, Nat.reduceLT, Nat.reduceLeDiff, reduceCtorEq, Int.toNat_natCast, delH, show ¬ id = b by omega])
  rw [hH2]
  clear hH2
  obtain ⟨m1, e1, hm1⟩ : ∃ m1 e1, withR l d = (m1, e1) := ⟨_, _, rfl⟩
  obtain ⟨m2, e2, hm2⟩ : ∃ m2 e2, bestR kB l = (m2, e2) := ⟨_, _, rfl⟩
  have hm3 := best_eq hr1
  rw [hm2] at hm3
  have n1 : m1.length ≤ 259 := by have := withR_len l d; rw [hm1] at this; simp only at this; omega
  have n2 : m2.length ≤ 259 := by have := bestR_len kB l; rw [hm2] at this; simp only at this; omega
  have cw := fun (hh : Heap) (b' : Nat) => tWithinO_ok l d (by omega) hh b'
  rw [hm1] at cw
  have cb := fun (hh : Heap) (b' : Nat) => BestO_ok l (by omega) hh b'
  rw [hm2] at cb
  refine Rg (fun E K hE hK => ?_)
  refine CallR.use (cw _ _) body_43 ?_
  rintro _ _ ⟨v1, k1, T1, x1, x2, x3, rfl, rfl⟩
  refine Ev ?_
  refine hK _ _ _ ?_; clear hE hK K E
  refine Rg (fun E K hE hK => ?_)
  refine Us (rWithinT_ok l d (by omega) hs hds _ _) body_55 ?_
  refine Evf @hm1 ?_
  refine hK _ _ _ ?_; clear hE hK K E
  refine Rg (fun E K hE hK => ?_)
  refine CallR.use (cb _ _) body_52 ?_
  rintro _ _ ⟨v2, k2, T2, y1, y2, y3, rfl, rfl⟩
  refine Ev ?_
  refine hK _ _ _ ?_; clear hE hK K E
  refine Rg (fun E K hE hK => ?_)
  refine Us (rBest_ok l (by omega) hs _ _) body_56 ?_
  refine Evf @hm3 ?_
  refine hK _ _ _ ?_; clear hE hK K E
  refine Rg (fun E K hE hK => ?_)
  refine Us (same_lend (m := m1) (T := T1) (by omega) (by exact Er) _) body_50 ?_
  refine Us (same_lend (m := m2) (T := T2) (by omega) (by exact Er) _) body_50 ?_
  try (refine Ev ?_)
  refine hK _ _ _ ?_; clear hE hK K E
  refine Am.AWP.genT (tells b h l m1 m2 v1 v2 k1 k2 T1 T2) ⟨rfl, ⟨m1, m2, rfl, rfl, by exact Er, by exact Er⟩, (Ouf @hO2), by exact Er, by exact Er, by exact Er, by exact Er, by exact Er, by exact Er⟩ ?_
  clear hO2 cw cb
  rintro ⟨t, hh, n⟩ ⟨hn1, ⟨r1, r2, l1, l2, b2, b3⟩, ho, e0, e5, e6, e7, e11, e15⟩
  simp only at b2 b3 ho e0 e5 e6 e7 e11 e15 hn1
  subst hn1
  refine AWP.mid (tells b h l m1 m2 v1 v2 k1 k2 T1 T2) ?_ ?_
  · refine AWP.seqReg (by kernel_rfl) (fun E K hE hK => ?_); simp -implicitDefEqProofs only [go_sem, ↓reduceIte, Nat.reduceEqDiff, Nat.reduceAdd, Nat.reduceLT, Nat.reduceLeDiff, reduceCtorEq, Int.toNat_natCast, e7, b2, rowB]; refine hK _ _ _ ?_; clear hE hK K E
    refine AWP.block ?_
    refine AWP.loopK 3 (fun k st => ∃ i, i ≤ m1.length ∧ k = m1.length - i ∧ tells b h l m1 m2 v1 v2 k1 k2 T1 T2 st ∧ st.t 71 = IntV m1.length ∧ st.t 72 = IntV (i : Nat)) m1.length rfl ⟨0, Nat.zero_le _, rfl, ⟨rfl, ⟨r1, r2, l1, l2, b2, b3⟩, ho, by exact Erf @e0, by exact Erf @e5, by exact Erf @e6, by exact Erf @e7, by exact Erf @e11, by exact Erf @e15⟩, by exact Er, by exact Er⟩ ?_
    clear b2 b3 ho l1 l2 r1 r2 e0 e5 e6 e7 e11 e15
    rintro k ⟨t, hh, n⟩ ⟨i, hi, rfl, ⟨hn2, ⟨r1, r2, l1, l2, b2, b3⟩, ho, e0, e5, e6, e7, e11, e15⟩, eB, eC⟩ hn1
    simp only at b2 b3 ho e0 e5 e6 e7 e11 e15 eB eC hn1
    clear hn2
    subst hn1
    refine Rkf (jn2 @eB @eC) ?_
    refine AWP.seq ?_
    by_cases hlt : (i : Int) < m1.length
    · have hw1 : IntKind.i64.wrap ((i : Int) + 1) = ((i + 1 : Nat) : Int) := by rw [wrap_i64 (by omega) (by omega)]; rfl
      have hi2 : i < r1.length := by omega
      have hr5 : (List.map Cell.p (r1.map encF).flatten ++ T1)[i * 6 + 5]? = some (.p (.v (.int .i64 r1[i].len))) := row_len5 r1 T1 v1 i hi2
      have hst := row_set5 r1 T1 i hi2 (IntKind.i64.wrap (r1[i].len + 1))
      have hb' : hh (b + 1) = some ⟨v1, List.map Cell.p (r1.map encF).flatten ++ T1⟩ := b2
      have hlL : (List.map Cell.p (r1.map encF).flatten ++ T1).length = r1.length * 6 + T1.length := by rw [List.length_append, List.length_map, okEs_len (okEs_fl _), List.length_map]
      generalize hL : List.map Cell.p (r1.map encF).flatten ++ T1 = L at hb' hr5 hst hlL
      refine Btf @hlt ?_
      refine AWP.skip ?_
      refine Ev ?_
      refine AWP.seq ?_
      refine AWP.block ?_
      refine Rkf @eC ?_
      refine Raf (jn4 @e7 @hb' @hlt @hr5) (fun E K hE hK => ?_)
      repeat (refine ⟨by omega, ?_⟩)
      rw [hst]
      refine hK _ _ _ ?_; clear hE hK K E
      refine Ev ?_
      refine Raf (jn2 @eC @hw1) (fun E K hE hK => ?_); refine hK _ _ _ ?_; clear hE hK K E
      exact ⟨rfl, m1.length - (i + 1), by omega, i + 1, by omega, rfl, ⟨rfl, ⟨r1.set i { r1[i] with len := IntKind.i64.wrap (r1[i].len + 1) }, r2, by rw [List.length_set]; exact l1, l2, by exact Er, by exact Erf @b3⟩, (fun id (hid : id < b) => by simp -implicitDefEqProofs only [go_sem, ↓reduceIte, Nat.reduceEqDiff, Nat.reduceAdd, Nat.reduceLT, Nat.reduceLeDiff, reduceCtorEq, Int.toNat_natCast, show ¬ id = b by omega, show ¬ id = b + 1 by omega, ho id hid]), by exact Ecf @e0, by exact Ecf @e5, by exact Ecf @e6, by exact Ecf @e7, by exact Ecf @e11, by exact Ecf @e15⟩, by exact Ecf @eB, by exact Er⟩
    · refine Bff @hlt ?_
      refine AWP.exit ?_
      refine Ev ?_
      exact ⟨rfl, ⟨r1, r2, l1, l2, b2, b3⟩, ho, e0, e5, e6, e7, e11, e15⟩
  rintro ⟨t, hh, n⟩ ⟨hn1, ⟨r1, r2, l1, l2, b2, b3⟩, ho, e0, e5, e6, e7, e11, e15⟩
  simp only at b2 b3 ho e0 e5 e6 e7 e11 e15 hn1
  subst hn1
  refine AWP.mid (tells b h l m1 m2 v1 v2 k1 k2 T1 T2) ?_ ?_
  · refine AWP.seqReg (by kernel_rfl) (fun E K hE hK => ?_); simp -implicitDefEqProofs only [go_sem, ↓reduceIte, Nat.reduceEqDiff, Nat.reduceAdd, Nat.reduceLT, Nat.reduceLeDiff, reduceCtorEq, Int.toNat_natCast, e11, b3, rowB]; refine hK _ _ _ ?_; clear hE hK K E
    refine AWP.block ?_
    refine AWP.loopK 3 (fun k st => ∃ i, i ≤ m2.length ∧ k = m2.length - i ∧ tells b h l m1 m2 v1 v2 k1 k2 T1 T2 st ∧ st.t 85 = IntV m2.length ∧ st.t 86 = IntV (i : Nat)) m2.length rfl ⟨0, Nat.zero_le _, rfl, ⟨rfl, ⟨r1, r2, l1, l2, b2, b3⟩, ho, by exact Erf @e0, by exact Erf @e5, by exact Erf @e6, by exact Erf @e7, by exact Erf @e11, by exact Erf @e15⟩, by exact Er, by exact Er⟩ ?_
    clear b2 b3 ho l1 l2 r1 r2 e0 e5 e6 e7 e11 e15
    rintro k ⟨t, hh, n⟩ ⟨i, hi, rfl, ⟨hn2, ⟨r1, r2, l1, l2, b2, b3⟩, ho, e0, e5, e6, e7, e11, e15⟩, eB, eC⟩ hn1
    simp only at b2 b3 ho e0 e5 e6 e7 e11 e15 eB eC hn1
    clear hn2
    subst hn1
    refine Rkf (jn2 @eB @eC) ?_
    refine AWP.seq ?_
    by_cases hlt : (i : Int) < m2.length
    · have hw1 : IntKind.i64.wrap ((i : Int) + 1) = ((i + 1 : Nat) : Int) := by rw [wrap_i64 (by omega) (by omega)]; rfl
      have hi2 : i < r2.length := by omega
      have hr5 : (List.map Cell.p (r2.map encF).flatten ++ T2)[i * 6 + 5]? = some (.p (.v (.int .i64 r2[i].len))) := row_len5 r2 T2 v2 i hi2
      have hst := row_set5 r2 T2 i hi2 (IntKind.i64.wrap (r2[i].len + 1))
      have hb' : hh (b + 2) = some ⟨v2, List.map Cell.p (r2.map encF).flatten ++ T2⟩ := b3
      have hlL : (List.map Cell.p (r2.map encF).flatten ++ T2).length = r2.length * 6 + T2.length := by rw [List.length_append, List.length_map, okEs_len (okEs_fl _), List.length_map]
      generalize hL : List.map Cell.p (r2.map encF).flatten ++ T2 = L at hb' hr5 hst hlL
      refine Btf @hlt ?_
      refine AWP.skip ?_
      refine Ev ?_
      refine AWP.seq ?_
      refine AWP.block ?_
      refine Rkf @eC ?_
      refine Raf (jn4 @e11 @hb' @hlt @hr5) (fun E K hE hK => ?_)
      repeat (refine ⟨by omega, ?_⟩)
      rw [hst]
      refine hK _ _ _ ?_; clear hE hK K E
      refine Ev ?_
      refine Raf (jn2 @eC @hw1) (fun E K hE hK => ?_); refine hK _ _ _ ?_; clear hE hK K E
      exact ⟨rfl, m2.length - (i + 1), by omega, i + 1, by omega, rfl, ⟨rfl, ⟨r1, r2.set i { r2[i] with len := IntKind.i64.wrap (r2[i].len + 1) }, l1, by rw [List.length_set]; exact l2, by exact Erf @b2, by exact Er⟩, (fun id (hid : id < b) => by simp -implicitDefEqProofs only [go_sem, ↓reduceIte, Nat.reduceEqDiff, Nat.reduceAdd, Nat.reduceLT, Nat.reduceLeDiff, reduceCtorEq, Int.toNat_natCast, show ¬ id = b by omega, show ¬ id = b + 2 by omega, ho id hid]), by exact Ecf @e0, by exact Ecf @e5, by exact Ecf @e6, by exact Ecf @e7, by exact Ecf @e11, by exact Ecf @e15⟩, by exact Ecf @eB, by exact Er⟩
    · refine Bff @hlt ?_
      refine AWP.exit ?_
      refine Ev ?_
      exact ⟨rfl, ⟨r1, r2, l1, l2, b2, b3⟩, ho, e0, e5, e6, e7, e11, e15⟩
  rintro ⟨t, hh, n⟩ ⟨hn1, ⟨r1, r2, l1, l2, b2, b3⟩, ho, e0, e5, e6, e7, e11, e15⟩
  simp only at b2 b3 ho e0 e5 e6 e7 e11 e15 hn1
  subst hn1
  refine Rgf (jn4 @e0 @e5 @e6 @e15) (fun E K hE hK => ?_)
  refine Us (rSameG_ok l l (by omega) _ _) body_50 ?_
  refine Evf @sameL_refl ?_
  refine hK _ _ _ ?_; clear hE hK K E
  refine AWP.ret ?_
  exact fin _ _ _ (by exact Er) ho
end Go.Proofs.YtengjcdilnikhaaDoor
