/-
  Walk of the law TableDoes.
-/
import Derived.Test.YtengjcdilnikhaaDoorTbL0
import Derived.Test.YtengjcdilnikhaaDoorTbO1
import Derived.Test.YtengjcdilnikhaaDoorTbD1
import Derived.Test.YtengjcdilnikhaaDoorTbW7
namespace Go.Proofs.YtengjcdilnikhaaDoor
set_option linter.unusedSimpArgs false
set_option linter.unusedVariables false
set_option linter.unnecessarySimpa false
open Go Am
set_option maxRecDepth 100000

theorem row_set5 (l : List Fl) (T : List Cell) (i : Nat) (hi : i < l.length) (v : Int) :
    List.take (i * 6 + 5) (List.map Cell.p (l.map encF).flatten ++ T) ++ .p (.v (.int .i64 v)) :: List.drop (i * 6 + 5 + 1) (List.map Cell.p (l.map encF).flatten ++ T) = List.map Cell.p ((l.set i { l[i] with len := v }).map encF).flatten ++ T := by
  have e : l = l.take i ++ (l[i] :: l.drop (i + 1)) := by rw [← List.drop_eq_getElem_cons hi, List.take_append_drop]
  have e2 : l.set i { l[i] with len := v } = l.take i ++ (({ l[i] with len := v } : Fl) :: l.drop (i + 1)) := by rw [List.set_eq_take_append_cons_drop, if_pos hi]
  have h1 : ∀ f : Fl, List.map Cell.p ((l.take i ++ (f :: l.drop (i + 1))).map encF).flatten ++ T = List.map Cell.p ((l.take i).map encF).flatten ++ (.p (.v (.string (mkS f.name))) :: .p (.v (.float .f64 f.rank)) :: .p (.v (.int .u32 f.sum)) :: .p (.v (.int .i64 f.blk)) :: .p (.v (.int .i64 f.frm)) :: .p (.v (.int .i64 f.len)) :: (List.map Cell.p ((l.drop (i + 1)).map encF).flatten ++ T)) := fun f => by simp [encF]
  have hP : (List.map Cell.p ((l.take i).map encF).flatten).length = i * 6 := by rw [List.length_map, okEs_len (okEs_fl _), List.length_map, List.length_take]; omega
  rw [e2, h1]
  have h2 := h1 l[i]
  rw [← e] at h2
  rw [h2]
  generalize List.map Cell.p ((l.take i).map encF).flatten = P at hP
  have a1 : List.take (P.length + 5) P = P := List.take_of_length_le (Nat.le_add_right _ _)
  have a2 : List.drop (P.length + 5 + 1) P = [] := List.drop_eq_nil_of_le (by omega)
  rw [← hP, List.take_append, List.drop_append, a1, a2, show P.length + 5 - P.length = 5 by omega, show P.length + 5 + 1 - P.length = 6 by omega]
  simp
theorem row_len5 (l : List Fl) (T : List Cell) (ver : Nat) (i : Nat) (hi : i < l.length) : (rowB ver (l.map encF) T).cells[i * 6 + 5]? = some (.p (.v (.int .i64 l[i].len))) := by
  have := row_cells (okEs_fl l) ver T i (encF l[i]) (by simp [hi]) 5 (.v (.int .i64 l[i].len)) rfl
  rwa [Nat.zero_add] at this
theorem putR_len (l : List Fl) (f : Fl) : (putR l f).1.length ≤ l.length + 1 := by
  have := putL_len f l
  unfold putR
  split
  · simp
  · split
    · simp only; rw [this]; split <;> omega
    · split
      · simp
      · simp only; rw [this]; split <;> omega
theorem delR_len (l : List Fl) (p : S) : (delR l p).1.length ≤ l.length := by
  have := delL_len p l
  unfold delR
  split
  · simp
  · split
    · simp only; omega
    · simp
theorem movR_len (l : List Fl) (p q : S) : (movR l p q).1.length ≤ l.length + 1 := by
  have := delL_len p l
  unfold movR
  split
  · simp
  · split
    · simp
    · split
      · simp
      · exact Nat.le_trans (putR_len _ _) (by omega)
theorem fewT_size {l : List Fl} (h : fewT l = true) : l.length ≤ 258 ∧ ∀ f ∈ l, f.name.length ≤ 1000 := by
  unfold fewT at h
  simp only [Bool.and_eq_true, Bool.or_eq_true, decide_eq_true_eq, List.all_eq_true] at h
  exact ⟨by omega, fun f hf => by have := h.1 f hf; omega⟩

/-- an own row against the same, read only -/
theorem same_lend {m : List Fl} {id ver cap : Nat} {T : List Cell} {hh : Heap} (hl : m.length ≤ 1000000) (hb : hh id = some (rowB ver (m.map encF) T)) (b : Nat) :
    ACalls Tryd.prog 50 [.one (.win id ver 0 m.length cap), FlsV m] hh b 0 (fun r h' => r = BoolV true ∧ h' = hh) := by
  have c := rSameG_ok m m hl noH b
  rw [sameL_refl] at c
  have hlm2 : (m.map encF).length = m.length := List.length_map _
  have vw := view_rowT (h := hh) (D := fun _ => true) (id := id) (ver := ver) (sz := 6) (m := m.length) (j := 0) (off := 0) (cap := cap) rfl hb (okEs_fl m) (by rw [hlm2]; omega) rfl
  rw [List.drop_zero, ← hlm2, List.take_length, hlm2] at vw
  exact c.lend (.cons (.one vw) (.cons (.same _) .nil)) (.one _)

theorem Am.AWP.genT {P : Program} {C : Ctx} {Q : Exit → St → Prop} {c : Code} {s : St} (M : St → Prop) (h : M s) (k : ∀ s, M s → AWP P C c Q s) : AWP P C c Q s := k s h

/-- what is kept while the law writes -/
def does (b : Nat) (h : Heap) (l m1 m2 m3 : List Fl) (v1 v2 v3 k1 k2 k3 : Nat) (T1 T2 T3 : List Cell) (st : St) : Prop :=
  st.n = 7 ∧ (∃ r1 r2 r3 : List Fl, r1.length = m1.length ∧ r2.length = m2.length ∧ r3.length = m3.length ∧ st.h (b + 2) = some (rowB v1 (r1.map encF) T1) ∧ st.h (b + 3) = some (rowB v2 (r2.map encF) T2) ∧ st.h (b + 4) = some (rowB v3 (r3.map encF) T3)) ∧
  (∀ id, id < b → st.h id = h id) ∧ st.t 0 = FlsV l ∧ st.t 11 = BoolV true ∧ st.t 12 = FlsV l ∧ st.t 13 = .one (.win (b + 2) v1 0 m1.length k1) ∧ st.t 17 = .one (.win (b + 3) v2 0 m2.length k2) ∧ st.t 21 = .one (.win (b + 4) v3 0 m3.length k3) ∧ st.t 29 = BoolV true

theorem TableDoes_ok (l o : List Fl) (f : Fl) (p q : S) (hl : l.length ≤ maxLen) (ho : o.length ≤ maxLen) (hf : f.name.length ≤ maxLen) (hp : p.length ≤ maxLen) (hq : q.length ≤ maxLen) (hr1 : ∀ f ∈ l, f.rank < 18446744073709551616) (hr2 : ∀ f ∈ o, f.rank < 18446744073709551616) (h : Heap) (b : Nat) :
    ACalls Tryd.prog 12 [FlsV l, FlsV o, FlV f, StrV p, StrV q] h b 0 (fun r h' => r = BoolV true ∧ h' = h) := by
  refine ACalls.enter Tryd.func12 rfl (by simp [Tryd.ntmps12]) (fun ι w hn H => ?_)
  have hmx : maxLen ≤ 9223372036854775807 := by decide
  have hlm : (l.map encF).length = l.length := List.length_map _
  have s1 := mkS_size f.name
  have s2 := mkS_size p
  have s3 := mkS_size q
  have fin : ∀ (t : Nat → AV) (hh : Heap) (n : Nat), t 10 = BoolV true → (∀ id, id < b → hh id = h id) → Am.Ends Tryd.prog ⟨Tryd.f12.ntmps, b, ι, h, w, x0⟩ Tryd.f12 0 (fun r h' => r = BoolV true ∧ h' = h) ⟨t, hh, n⟩ := by
    intro t hh n ht ho
    exact Ends.pure hn H ho (r0 := BoolV true) (by rw [show Tryd.f12.results.toList = [.tmp 10] from rfl]; exact Ecf @ht) (.v _) ⟨rfl, rfl⟩
  refine Rk ?_
  refine Rg (fun E K hE hK => ?_)
  refine Us (live_ok _ _) body_34 ?_
  refine hK _ _ _ ?_; clear hE hK K E
  refine AWP.seq ?_
  cases c1 : fewT l
  · refine Rg (fun E K hE hK => ?_)
    refine Us (fewT_ok l (by omega) _ _) body_41 ?_
    refine Evf @c1 ?_
    refine hK _ _ _ ?_; clear hE hK K E
    refine Bt ?_
    refine Rk ?_
    refine AWP.ret ?_
    refine Ev ?_
    exact fin _ _ _ (by exact Er) Ou
  cases c2 : fewT o
  · refine Rg (fun E K hE hK => ?_)
    refine Us (fewT_ok l (by omega) _ _) body_41 ?_
    refine Evf @c1 ?_
    refine Us (fewT_ok o (by omega) _ _) body_41 ?_
    refine Evf @c2 ?_
    refine hK _ _ _ ?_; clear hE hK K E
    refine Bt ?_
    refine Rk ?_
    refine AWP.ret ?_
    refine Ev ?_
    exact fin _ _ _ (by exact Er) Ou
  by_cases c3 : (200 : Int) < p.length
  · refine Rg (fun E K hE hK => ?_)
    refine Us (fewT_ok l (by omega) _ _) body_41 ?_
    refine Evf @c1 ?_
    refine Us (fewT_ok o (by omega) _ _) body_41 ?_
    refine Evf (jn3 @c2 @s2 @c3) ?_
    refine hK _ _ _ ?_; clear hE hK K E
    refine Bt ?_
    refine Rk ?_
    refine AWP.ret ?_
    refine Ev ?_
    exact fin _ _ _ (by exact Er) Ou
  by_cases c4 : (200 : Int) < q.length
  · refine Rg (fun E K hE hK => ?_)
    refine Us (fewT_ok l (by omega) _ _) body_41 ?_
    refine Evf @c1 ?_
    refine Us (fewT_ok o (by omega) _ _) body_41 ?_
    refine Evf (jn5 @c2 @s2 @c3 @s3 @c4) ?_
    refine hK _ _ _ ?_; clear hE hK K E
    refine Bt ?_
    refine Rk ?_
    refine AWP.ret ?_
    refine Ev ?_
    exact fin _ _ _ (by exact Er) Ou
  by_cases c5 : (200 : Int) < f.name.length
  · refine Rg (fun E K hE hK => ?_)
    refine Us (fewT_ok l (by omega) _ _) body_41 ?_
    refine Evf @c1 ?_
    refine Us (fewT_ok o (by omega) _ _) body_41 ?_
    refine Evf (jn7 @c2 @s2 @c3 @s3 @c4 @s1 @c5) ?_
    refine hK _ _ _ ?_; clear hE hK K E
    refine Bt ?_
    refine Rk ?_
    refine AWP.ret ?_
    refine Ev ?_
    exact fin _ _ _ (by exact Er) Ou
  refine Rg (fun E K hE hK => ?_)
  refine Us (fewT_ok l (by omega) _ _) body_41 ?_
  refine Evf @c1 ?_
  refine Us (fewT_ok o (by omega) _ _) body_41 ?_
  refine Evf (jn7 @c2 @s2 @c3 @s3 @c4 @s1 @c5) ?_
  refine hK _ _ _ ?_; clear hE hK K E
  refine Bs ?_
  obtain ⟨hl2, hs⟩ := fewT_size c1
  obtain ⟨ho2, hso⟩ := fewT_size c2
  have hfs : f.name.length ≤ 1000 := by omega
  have hps : p.length ≤ 1000 := by omega
  have hqs : q.length ≤ 1000 := by omega
  refine Rg (fun E K hE hK => ?_)
  refine BiR.of ?_
  refine BiK.append_nil (e := 60) (sz := 6) (bytes := 56) (m := l.length) (xs := (l.map encF).flatten.map .p) ty_slE_53 ty_tsz_60 ty_tzero_60 rfl ty_tby_60 ty_isIntT_53 (by simp [srcA]) (okEs_flat (okEs_fl l) _) (by omega) (by decide) (by omega) (fun cap0 r0 g1 g2 => ?_)
  refine Ev ?_
  refine hK _ _ _ ?_; clear hE hK K E
  refine AWP.frz 12 (cap := cap0) (len := l.length) (off := 0) (id := b + 1) 6 (l.map encF) (by exact Er) (by exact Er) rfl hlm (okEs_fl l).len (row_cells (okEs_fl l) 1 _) ?_
  obtain ⟨H2, hH2⟩ : ∃ H2, delH (upd (upd h b ⟨0, [.p (.v (.string (mkS f.name))), .p (.v (.float .f64 f.rank)), .p (.v (.int .u32 f.sum)), .p (.v (.int .i64 f.blk)), .p (.v (.int .i64 f.frm)), .p (.v (.int .i64 f.len))]⟩) (b + 1) ⟨1, List.map Cell.p (List.map encF l).flatten ++ List.replicate r0 Cell.junk⟩) (b + 1) = H2 := ⟨_, rfl⟩
  have hB2 : H2 b = some ⟨0, [.p (.v (.string (mkS f.name))), .p (.v (.float .f64 f.rank)), .p (.v (.int .u32 f.sum)), .p (.v (.int .i64 f.blk)), .p (.v (.int .i64 f.frm)), .p (.v (.int .i64 f.len))]⟩ := by rw [← hH2]; (first | (simp -implicitDefEqProofs only [go_sem, ↓reduceIte, Nat.reduceEqDiff, Nat.reduceAdd, Nat.reduceLT, Nat.reduceLeDiff, reduceCtorEq, Int.toNat_natCast, delH]; first | done | rfl) | rfl)
  have hO2 : ∀ id, id < b → H2 id = h id := by rw [← hH2]; exact (fun id (hid : id < b) => by simp -implicitDefEqProofs only [go_sem, ↓reduceIte, Nat.reduceEqDiff, Nat.reduceAdd, Nat.reduceLT, Nat.reduceLeDiff, reduceCtorEq, Int.toNat_natCast, delH, show ¬ id = b by omega, show ¬ id = b + 1 by omega])
  rw [hH2]
  clear hH2
  obtain ⟨m1, e1, hm1⟩ : ∃ m1 e1, putR l f = (m1, e1) := ⟨_, _, rfl⟩
  obtain ⟨m2, e2, hm2⟩ : ∃ m2 e2, delR l p = (m2, e2) := ⟨_, _, rfl⟩
  obtain ⟨m3, e3, hm3⟩ : ∃ m3 e3, movR l p q = (m3, e3) := ⟨_, _, rfl⟩
  obtain ⟨gf, eg, hgf⟩ : ∃ gf eg, getR l p = (gf, eg) := ⟨_, _, rfl⟩
  have n1 : m1.length ≤ 259 := by have := putR_len l f; rw [hm1] at this; simp only at this; omega
  have n2 : m2.length ≤ 259 := by have := delR_len l p; rw [hm2] at this; simp only at this; omega
  have n3 : m3.length ≤ 259 := by have := movR_len l p q; rw [hm3] at this; simp only at this; omega
  have cput := fun (hh : Heap) (b' : Nat) => PutO_ok l f (by omega) hh b'
  rw [hm1] at cput
  have cdel := fun (hh : Heap) (b' : Nat) => DelO_ok l p (by omega) hh b'
  rw [hm2] at cdel
  have cmov := fun (hh : Heap) (b' : Nat) => MoveO_ok l p q (by omega) hh b'
  rw [hm3] at cmov
  refine Rgf @hB2 (fun E K hE hK => ?_)
  refine CallR.use (cput _ _) body_36 ?_
  rintro _ _ ⟨v1, k1, T1, x1, x2, x3, rfl, rfl⟩
  refine Ev ?_
  refine hK _ _ _ ?_; clear hE hK K E
  refine Rgf @hB2 (fun E K hE hK => ?_)
  refine Us (rPutT_ok l f (by omega) hs hfs _ _) body_46 ?_
  refine Evf @hm1 ?_
  refine hK _ _ _ ?_; clear hE hK K E
  refine Rg (fun E K hE hK => ?_)
  refine CallR.use (cdel _ _) body_37 ?_
  rintro _ _ ⟨v2, k2, T2, y1, y2, y3, rfl, rfl⟩
  refine Ev ?_
  refine hK _ _ _ ?_; clear hE hK K E
  refine Rg (fun E K hE hK => ?_)
  refine Us (rDelT_ok l p (by omega) hs hps _ _) body_47 ?_
  refine Evf @hm2 ?_
  refine hK _ _ _ ?_; clear hE hK K E
  refine Rg (fun E K hE hK => ?_)
  refine CallR.use (cmov _ _) body_38 ?_
  rintro _ _ ⟨v3, k3, T3, z1, z2, z3, rfl, rfl⟩
  refine Ev ?_
  refine hK _ _ _ ?_; clear hE hK K E
  refine Rg (fun E K hE hK => ?_)
  refine Us (rMoveT_ok l p q (by omega) hs hps hqs _ _) body_48 ?_
  refine Evf @hm3 ?_
  refine hK _ _ _ ?_; clear hE hK K E
  refine Rg (fun E K hE hK => ?_)
  refine Us (Get_ok l p (by omega) _ _) body_40 ?_
  refine Evf @hgf ?_
  refine hK _ _ _ ?_; clear hE hK K E
  refine Rg (fun E K hE hK => ?_)
  refine Us (rGetT_ok l p (by omega) hs hps _ _) body_49 ?_
  refine Evf @hgf ?_
  refine hK _ _ _ ?_; clear hE hK K E
  have hse := same_eq hr1 hr2
  cases hlo : sameL keyD l o
  all_goals
    rw [hlo] at hse
    refine Rg (fun E K hE hK => ?_)
    refine Us (same_lend (m := m1) (T := T1) (by omega) (by exact Er) _) body_50 ?_
    refine Us (same_lend (m := m2) (T := T2) (by omega) (by exact Er) _) body_50 ?_
    refine Us (same_lend (m := m3) (T := T3) (by omega) (by exact Er) _) body_50 ?_
    refine Us (oneGD_ok gf gf _ _) body_45 ?_
    refine Evf @sameX_refl ?_
    refine Us (tCheck_ok l (by omega) _ _) body_39 ?_
    refine Us (rCheckT_ok l (by omega) hs _ _) body_51 ?_
    try (refine Ev ?_)
    refine Us (tSameG_ok l o (by omega) _ _) body_42 ?_
    refine Us (rSameG_ok l o (by omega) _ _) body_50 ?_
    refine Evf (jn2 @hlo @hse) ?_
    refine hK _ _ _ ?_; clear hE hK K E
    refine Am.AWP.genT (does b h l m1 m2 m3 v1 v2 v3 k1 k2 k3 T1 T2 T3) ⟨rfl, ⟨m1, m2, m3, rfl, rfl, rfl, by exact Er, by exact Er, by exact Er⟩, (Ouf @hO2), by exact Er, by exact Er, by exact Er, by exact Er, by exact Er, by exact Er, by exact Er⟩ ?_
    clear hB2 hO2 cput cdel cmov
    rintro ⟨t, hh, n⟩ ⟨hn1, ⟨r1, r2, r3, l1, l2, l3, b2, b3, b4⟩, ho, e0, e11, e12, e13, e17, e21, e29⟩
    simp only at b2 b3 b4 ho e0 e11 e12 e13 e17 e21 e29 hn1
    subst hn1
    refine AWP.mid (does b h l m1 m2 m3 v1 v2 v3 k1 k2 k3 T1 T2 T3) ?_ ?_
    · refine AWP.seqReg (by kernel_rfl) (fun E K hE hK => ?_); simp -implicitDefEqProofs only [go_sem, ↓reduceIte, Nat.reduceEqDiff, Nat.reduceAdd, Nat.reduceLT, Nat.reduceLeDiff, reduceCtorEq, Int.toNat_natCast, e13, b2, rowB]; refine hK _ _ _ ?_; clear hE hK K E
      refine AWP.block ?_
      refine AWP.loopK 7 (fun k st => ∃ i, i ≤ m1.length ∧ k = m1.length - i ∧ does b h l m1 m2 m3 v1 v2 v3 k1 k2 k3 T1 T2 T3 st ∧ st.t 166 = IntV m1.length ∧ st.t 167 = IntV (i : Nat)) m1.length rfl ⟨0, Nat.zero_le _, rfl, ⟨rfl, ⟨r1, r2, r3, l1, l2, l3, b2, b3, b4⟩, ho, by exact Erf @e0, by exact Erf @e11, by exact Erf @e12, by exact Erf @e13, by exact Erf @e17, by exact Erf @e21, by exact Erf @e29⟩, by exact Er, by exact Er⟩ ?_
      clear b2 b3 b4 ho l1 l2 l3 r1 r2 r3 e0 e11 e12 e13 e17 e21 e29
      rintro k ⟨t, hh, n⟩ ⟨i, hi, rfl, ⟨hn2, ⟨r1, r2, r3, l1, l2, l3, b2, b3, b4⟩, ho, e0, e11, e12, e13, e17, e21, e29⟩, eB, eC⟩ hn1
      simp only at b2 b3 b4 ho e0 e11 e12 e13 e17 e21 e29 eB eC hn1
      clear hn2
      subst hn1
      refine Rkf (jn2 @eB @eC) ?_
      refine AWP.seq ?_
      by_cases hlt : (i : Int) < m1.length
      · have hw1 : IntKind.i64.wrap ((i : Int) + 1) = ((i + 1 : Nat) : Int) := by rw [wrap_i64 (by omega) (by omega)]; rfl
        have hi2 : i < r1.length := by omega
        have hr5 : (List.map Cell.p (r1.map encF).flatten ++ T1)[i * 6 + 5]? = some (.p (.v (.int .i64 r1[i].len))) := row_len5 r1 T1 v1 i hi2
        have hst := row_set5 r1 T1 i hi2 (IntKind.i64.wrap (r1[i].len + 1))
        have hb' : hh (b + 2) = some ⟨v1, List.map Cell.p (r1.map encF).flatten ++ T1⟩ := b2
        have hlL : (List.map Cell.p (r1.map encF).flatten ++ T1).length = r1.length * 6 + T1.length := by rw [List.length_append, List.length_map, okEs_len (okEs_fl _), List.length_map]
        generalize hL : List.map Cell.p (r1.map encF).flatten ++ T1 = L at hb' hr5 hst hlL
        refine Btf @hlt ?_
        refine AWP.skip ?_
        refine Ev ?_
        refine AWP.seq ?_
        refine AWP.block ?_
        refine Rkf @eC ?_
        refine Raf (jn4 @e13 @hb' @hlt @hr5) (fun E K hE hK => ?_)
        repeat (refine ⟨by omega, ?_⟩)
        rw [hst]
        refine hK _ _ _ ?_; clear hE hK K E
        refine Ev ?_
        refine Raf (jn2 @eC @hw1) (fun E K hE hK => ?_); refine hK _ _ _ ?_; clear hE hK K E
        exact ⟨rfl, m1.length - (i + 1), by omega, i + 1, by omega, rfl, ⟨rfl, ⟨r1.set i { r1[i] with len := IntKind.i64.wrap (r1[i].len + 1) }, r2, r3, by rw [List.length_set]; exact l1, l2, l3, by exact Er, by exact Erf @b3, by exact Erf @b4⟩, (fun id (hid : id < b) => by simp -implicitDefEqProofs only [go_sem, ↓reduceIte, Nat.reduceEqDiff, Nat.reduceAdd, Nat.reduceLT, Nat.reduceLeDiff, reduceCtorEq, Int.toNat_natCast, show ¬ id = b by omega, show ¬ id = b + 2 by omega, ho id hid]), by exact Ecf @e0, by exact Ecf @e11, by exact Ecf @e12, by exact Ecf @e13, by exact Ecf @e17, by exact Ecf @e21, by exact Ecf @e29⟩, by exact Ecf @eB, by exact Er⟩
      · refine Bff @hlt ?_
        refine AWP.exit ?_
        refine Ev ?_
        exact ⟨rfl, ⟨r1, r2, r3, l1, l2, l3, b2, b3, b4⟩, ho, e0, e11, e12, e13, e17, e21, e29⟩
    rintro ⟨t, hh, n⟩ ⟨hn1, ⟨r1, r2, r3, l1, l2, l3, b2, b3, b4⟩, ho, e0, e11, e12, e13, e17, e21, e29⟩
    simp only at b2 b3 b4 ho e0 e11 e12 e13 e17 e21 e29 hn1
    subst hn1
    refine AWP.mid (does b h l m1 m2 m3 v1 v2 v3 k1 k2 k3 T1 T2 T3) ?_ ?_
    · refine AWP.seqReg (by kernel_rfl) (fun E K hE hK => ?_); simp -implicitDefEqProofs only [go_sem, ↓reduceIte, Nat.reduceEqDiff, Nat.reduceAdd, Nat.reduceLT, Nat.reduceLeDiff, reduceCtorEq, Int.toNat_natCast, e17, b3, rowB]; refine hK _ _ _ ?_; clear hE hK K E
      refine AWP.block ?_
      refine AWP.loopK 7 (fun k st => ∃ i, i ≤ m2.length ∧ k = m2.length - i ∧ does b h l m1 m2 m3 v1 v2 v3 k1 k2 k3 T1 T2 T3 st ∧ st.t 180 = IntV m2.length ∧ st.t 181 = IntV (i : Nat)) m2.length rfl ⟨0, Nat.zero_le _, rfl, ⟨rfl, ⟨r1, r2, r3, l1, l2, l3, b2, b3, b4⟩, ho, by exact Erf @e0, by exact Erf @e11, by exact Erf @e12, by exact Erf @e13, by exact Erf @e17, by exact Erf @e21, by exact Erf @e29⟩, by exact Er, by exact Er⟩ ?_
      clear b2 b3 b4 ho l1 l2 l3 r1 r2 r3 e0 e11 e12 e13 e17 e21 e29
      rintro k ⟨t, hh, n⟩ ⟨i, hi, rfl, ⟨hn2, ⟨r1, r2, r3, l1, l2, l3, b2, b3, b4⟩, ho, e0, e11, e12, e13, e17, e21, e29⟩, eB, eC⟩ hn1
      simp only at b2 b3 b4 ho e0 e11 e12 e13 e17 e21 e29 eB eC hn1
      clear hn2
      subst hn1
      refine Rkf (jn2 @eB @eC) ?_
      refine AWP.seq ?_
      by_cases hlt : (i : Int) < m2.length
      · have hw1 : IntKind.i64.wrap ((i : Int) + 1) = ((i + 1 : Nat) : Int) := by rw [wrap_i64 (by omega) (by omega)]; rfl
        have hi2 : i < r2.length := by omega
        have hr5 : (List.map Cell.p (r2.map encF).flatten ++ T2)[i * 6 + 5]? = some (.p (.v (.int .i64 r2[i].len))) := row_len5 r2 T2 v2 i hi2
        have hst := row_set5 r2 T2 i hi2 (IntKind.i64.wrap (r2[i].len + 1))
        have hb' : hh (b + 3) = some ⟨v2, List.map Cell.p (r2.map encF).flatten ++ T2⟩ := b3
        have hlL : (List.map Cell.p (r2.map encF).flatten ++ T2).length = r2.length * 6 + T2.length := by rw [List.length_append, List.length_map, okEs_len (okEs_fl _), List.length_map]
        generalize hL : List.map Cell.p (r2.map encF).flatten ++ T2 = L at hb' hr5 hst hlL
        refine Btf @hlt ?_
        refine AWP.skip ?_
        refine Ev ?_
        refine AWP.seq ?_
        refine AWP.block ?_
        refine Rkf @eC ?_
        refine Raf (jn4 @e17 @hb' @hlt @hr5) (fun E K hE hK => ?_)
        repeat (refine ⟨by omega, ?_⟩)
        rw [hst]
        refine hK _ _ _ ?_; clear hE hK K E
        refine Ev ?_
        refine Raf (jn2 @eC @hw1) (fun E K hE hK => ?_); refine hK _ _ _ ?_; clear hE hK K E
        exact ⟨rfl, m2.length - (i + 1), by omega, i + 1, by omega, rfl, ⟨rfl, ⟨r1, r2.set i { r2[i] with len := IntKind.i64.wrap (r2[i].len + 1) }, r3, l1, by rw [List.length_set]; exact l2, l3, by exact Erf @b2, by exact Er, by exact Erf @b4⟩, (fun id (hid : id < b) => by simp -implicitDefEqProofs only [go_sem, ↓reduceIte, Nat.reduceEqDiff, Nat.reduceAdd, Nat.reduceLT, Nat.reduceLeDiff, reduceCtorEq, Int.toNat_natCast, show ¬ id = b by omega, show ¬ id = b + 3 by omega, ho id hid]), by exact Ecf @e0, by exact Ecf @e11, by exact Ecf @e12, by exact Ecf @e13, by exact Ecf @e17, by exact Ecf @e21, by exact Ecf @e29⟩, by exact Ecf @eB, by exact Er⟩
      · refine Bff @hlt ?_
        refine AWP.exit ?_
        refine Ev ?_
        exact ⟨rfl, ⟨r1, r2, r3, l1, l2, l3, b2, b3, b4⟩, ho, e0, e11, e12, e13, e17, e21, e29⟩
    rintro ⟨t, hh, n⟩ ⟨hn1, ⟨r1, r2, r3, l1, l2, l3, b2, b3, b4⟩, ho, e0, e11, e12, e13, e17, e21, e29⟩
    simp only at b2 b3 b4 ho e0 e11 e12 e13 e17 e21 e29 hn1
    subst hn1
    refine AWP.mid (does b h l m1 m2 m3 v1 v2 v3 k1 k2 k3 T1 T2 T3) ?_ ?_
    · refine AWP.seqReg (by kernel_rfl) (fun E K hE hK => ?_); simp -implicitDefEqProofs only [go_sem, ↓reduceIte, Nat.reduceEqDiff, Nat.reduceAdd, Nat.reduceLT, Nat.reduceLeDiff, reduceCtorEq, Int.toNat_natCast, e21, b4, rowB]; refine hK _ _ _ ?_; clear hE hK K E
      refine AWP.block ?_
      refine AWP.loopK 7 (fun k st => ∃ i, i ≤ m3.length ∧ k = m3.length - i ∧ does b h l m1 m2 m3 v1 v2 v3 k1 k2 k3 T1 T2 T3 st ∧ st.t 194 = IntV m3.length ∧ st.t 195 = IntV (i : Nat)) m3.length rfl ⟨0, Nat.zero_le _, rfl, ⟨rfl, ⟨r1, r2, r3, l1, l2, l3, b2, b3, b4⟩, ho, by exact Erf @e0, by exact Erf @e11, by exact Erf @e12, by exact Erf @e13, by exact Erf @e17, by exact Erf @e21, by exact Erf @e29⟩, by exact Er, by exact Er⟩ ?_
      clear b2 b3 b4 ho l1 l2 l3 r1 r2 r3 e0 e11 e12 e13 e17 e21 e29
      rintro k ⟨t, hh, n⟩ ⟨i, hi, rfl, ⟨hn2, ⟨r1, r2, r3, l1, l2, l3, b2, b3, b4⟩, ho, e0, e11, e12, e13, e17, e21, e29⟩, eB, eC⟩ hn1
      simp only at b2 b3 b4 ho e0 e11 e12 e13 e17 e21 e29 eB eC hn1
      clear hn2
      subst hn1
      refine Rkf (jn2 @eB @eC) ?_
      refine AWP.seq ?_
      by_cases hlt : (i : Int) < m3.length
      · have hw1 : IntKind.i64.wrap ((i : Int) + 1) = ((i + 1 : Nat) : Int) := by rw [wrap_i64 (by omega) (by omega)]; rfl
        have hi2 : i < r3.length := by omega
        have hr5 : (List.map Cell.p (r3.map encF).flatten ++ T3)[i * 6 + 5]? = some (.p (.v (.int .i64 r3[i].len))) := row_len5 r3 T3 v3 i hi2
        have hst := row_set5 r3 T3 i hi2 (IntKind.i64.wrap (r3[i].len + 1))
        have hb' : hh (b + 4) = some ⟨v3, List.map Cell.p (r3.map encF).flatten ++ T3⟩ := b4
        have hlL : (List.map Cell.p (r3.map encF).flatten ++ T3).length = r3.length * 6 + T3.length := by rw [List.length_append, List.length_map, okEs_len (okEs_fl _), List.length_map]
        generalize hL : List.map Cell.p (r3.map encF).flatten ++ T3 = L at hb' hr5 hst hlL
        refine Btf @hlt ?_
        refine AWP.skip ?_
        refine Ev ?_
        refine AWP.seq ?_
        refine AWP.block ?_
        refine Rkf @eC ?_
        refine Raf (jn4 @e21 @hb' @hlt @hr5) (fun E K hE hK => ?_)
        repeat (refine ⟨by omega, ?_⟩)
        rw [hst]
        refine hK _ _ _ ?_; clear hE hK K E
        refine Ev ?_
        refine Raf (jn2 @eC @hw1) (fun E K hE hK => ?_); refine hK _ _ _ ?_; clear hE hK K E
        exact ⟨rfl, m3.length - (i + 1), by omega, i + 1, by omega, rfl, ⟨rfl, ⟨r1, r2, r3.set i { r3[i] with len := IntKind.i64.wrap (r3[i].len + 1) }, l1, l2, by rw [List.length_set]; exact l3, by exact Erf @b2, by exact Erf @b3, by exact Er⟩, (fun id (hid : id < b) => by simp -implicitDefEqProofs only [go_sem, ↓reduceIte, Nat.reduceEqDiff, Nat.reduceAdd, Nat.reduceLT, Nat.reduceLeDiff, reduceCtorEq, Int.toNat_natCast, show ¬ id = b by omega, show ¬ id = b + 4 by omega, ho id hid]), by exact Ecf @e0, by exact Ecf @e11, by exact Ecf @e12, by exact Ecf @e13, by exact Ecf @e17, by exact Ecf @e21, by exact Ecf @e29⟩, by exact Ecf @eB, by exact Er⟩
      · refine Bff @hlt ?_
        refine AWP.exit ?_
        refine Ev ?_
        exact ⟨rfl, ⟨r1, r2, r3, l1, l2, l3, b2, b3, b4⟩, ho, e0, e11, e12, e13, e17, e21, e29⟩
    rintro ⟨t, hh, n⟩ ⟨hn1, ⟨r1, r2, r3, l1, l2, l3, b2, b3, b4⟩, ho, e0, e11, e12, e13, e17, e21, e29⟩
    simp only at b2 b3 b4 ho e0 e11 e12 e13 e17 e21 e29 hn1
    subst hn1
    refine Rgf (jn4 @e0 @e11 @e12 @e29) (fun E K hE hK => ?_)
    refine Us (rSameG_ok l l (by omega) _ _) body_50 ?_
    refine Evf @sameL_refl ?_
    refine hK _ _ _ ?_; clear hE hK K E
    refine AWP.ret ?_
    exact fin _ _ _ (by exact Er) ho

end Go.Proofs.YtengjcdilnikhaaDoor
