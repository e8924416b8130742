/-
  Walk of the law WireDoes.
-/
import Derived.Test.YthnhpbihgalgeaaDoorWiD1
import Derived.Test.YthnhpbihgalgeaaDoorWiX1
import Derived.Test.YthnhpbihgalgeaaDoorWiL1
namespace Go.Proofs.YthnhpbihgalgeaaDoor
set_option linter.unusedSimpArgs false
set_option linter.unusedVariables false
set_option linter.unnecessarySimpa false
open Go Am
set_option maxRecDepth 100000

theorem row_set5 (l : List Fl) (T : List Cell) (i : Nat) (hi : i < l.length) (v : Int) :
    List.take (i * 6 + 5) (List.map Cell.p (l.map encF).flatten ++ T) ++ .p (.v (.int .i64 v)) :: List.drop (i * 6 + 5 + 1) (List.map Cell.p (l.map encF).flatten ++ T) = List.map Cell.p ((l.set i { l[i] with len := v }).map encF).flatten ++ T := by
  have e : l = l.take i ++ (l[i] :: l.drop (i + 1)) := by rw [← List.drop_eq_getElem_cons hi, List.take_append_drop]
  have e2 : l.set i { l[i] with len := v } = l.take i ++ (({ l[i] with len := v } : Fl) :: l.drop (i + 1)) := by rw [List.set_eq_take_append_cons_drop, if_pos hi]
  have h1 : ∀ f : Fl, List.map Cell.p ((l.take i ++ (f :: l.drop (i + 1))).map encF).flatten ++ T = List.map Cell.p ((l.take i).map encF).flatten ++ (.p (.v (.string (mkS f.name))) :: .p (.v (.float .f64 f.rank)) :: .p (.v (.int .u32 f.sum)) :: .p (.v (.int .i64 f.blk)) :: .p (.v (.int .i64 f.frm)) :: .p (.v (.int .i64 f.len)) :: (List.map Cell.p ((l.drop (i + 1)).map encF).flatten ++ T)) := fun f => by simp [encF]
  have hP : (List.map Cell.p ((l.take i).map encF).flatten).length = i * 6 := by rw [List.length_map, okEs_len (okEs_fl _), List.length_map, List.length_take]; omega
  rw [e2, h1]
  have h2 := h1 l[i]
  rw [← e] at h2
  rw [h2]
  generalize List.map Cell.p ((l.take i).map encF).flatten = P at hP
  have a1 : List.take (P.length + 5) P = P := List.take_of_length_le (Nat.le_add_right _ _)
  have a2 : List.drop (P.length + 5 + 1) P = [] := List.drop_eq_nil_of_le (by omega)
  rw [← hP, List.take_append, List.drop_append, a1, a2, show P.length + 5 - P.length = 5 by omega, show P.length + 5 + 1 - P.length = 6 by omega]
  simp
theorem row_len5 (l : List Fl) (T : List Cell) (ver : Nat) (i : Nat) (hi : i < l.length) : (rowB ver (l.map encF) T).cells[i * 6 + 5]? = some (.p (.v (.int .i64 l[i].len))) := by
  have := row_cells (okEs_fl l) ver T i (encF l[i]) (by simp [hi]) 5 (.v (.int .i64 l[i].len)) rfl
  rwa [Nat.zero_add] at this
theorem Am.AWP.genT {P : Program} {C : Ctx} {Q : Exit → St → Prop} {c : Code} {s : St} (M : St → Prop) (h : M s) (k : ∀ s, M s → AWP P C c Q s) : AWP P C c Q s := k s h

theorem fewT_names {l : List Fl} (h : fewT l = true) : ∀ f ∈ l, f.name.length ≤ 1000 := by
  unfold fewT at h
  simp only [Bool.and_eq_true, Bool.or_eq_true, decide_eq_true_eq, List.all_eq_true] at h
  exact fun f hf => by have := h.1 f hf; omega
theorem fromR_len {s : S} {m : List Fl} {e : Int} (h : fromR s = (m, e)) : m.length ≤ s.length := by
  unfold fromR at h
  split at h
  · rw [← (Prod.mk.inj h).1]; simp
  · cases hT : readT s with
    | none => rw [hT] at h; simp only at h; rw [← (Prod.mk.inj h).1]; simp
    | some l =>
      rw [hT] at h
      simp only at h
      split at h
      · rw [← (Prod.mk.inj h).1]; exact (readT_bd hT).2
      · rw [← (Prod.mk.inj h).1]; simp
theorem longB_eq (l : List Fl) : longB l = longR l := by
  unfold longB longR bytesR
  split <;> rfl
theorem sameB_self (s : S) (h : Heap) (b : Nat) : ACalls Tryd.prog 12 [OctV s, OctV s] h b 0 (fun r h' => r = BoolV true ∧ h' = h) := by
  have c := sameB_ok s s h b
  rwa [decide_eq_true rfl] at c
theorem sameW_lend {m : List Fl} {id ver cap : Nat} {T : List Cell} {hh : Heap} (hl : m.length ≤ 1000000) (hb : hh id = some (rowB ver (m.map encF) T)) (b : Nat) :
    ACalls Tryd.prog 20 [.one (.win id ver 0 m.length cap), FlsV m] hh b 0 (fun r h' => r = BoolV true ∧ h' = hh) := by
  have c := rSameG_ok m m hl noH b
  rw [sameL_refl] at c
  exact c.lend (.cons (.one (view_fls m rfl hb)) (.cons (.same _) .nil)) (.one _)

/-- what is kept while the law writes -/
def wdo (b : Nat) (h : Heap) (m : List Fl) (s : S) (v k : Nat) (T : List Cell) (st : St) : Prop :=
  st.n = 2 ∧ (∃ r : List Fl, r.length = m.length ∧ st.h (b + 1) = some (rowB v (r.map encF) T)) ∧
  (∀ id, id < b → st.h id = h id) ∧ st.t 2 = OctV s ∧ st.t 7 = BoolV true ∧ st.t 8 = StrV s ∧ st.t 21 = .one (.win (b + 1) v 0 m.length k) ∧ st.t 25 = BoolV true

theorem WireDoes_ok (l : List Fl) (f : Fl) (s : S) (hs : ∀ f ∈ l, 0 ≤ f.sum ∧ f.sum < 4294967296) (hr : ∀ f ∈ l, f.rank < 18446744073709551616) (hl : l.length ≤ maxLen)
    (hfs : 0 ≤ f.sum ∧ f.sum < 4294967296) (hfr : f.rank < 18446744073709551616) (hfl : f.name.length ≤ maxLen) (hsl : s.length ≤ maxLen) (h : Heap) (b : Nat) :
    ACalls Tryd.prog 6 [FlsV l, FlV f, OctV s] h b 0 (fun r h' => r = BoolV true ∧ h' = h) := by
  refine ACalls.enter Tryd.func6 rfl (by simp [Tryd.ntmps6]) (fun ι w hn H => ?_)
  have hlow := H.lowCells
  have hmx : maxLen ≤ 9223372036854775807 := by decide
  have hlo : (s.map encO).length = s.length := List.length_map _
  have hlm : (l.map encF).length = l.length := List.length_map _
  have sz := mkS_size f.name
  have ho8 : octT Tryd.prog 25 9 = true := by kernel_rfl
  have oe := octE_map s
  have fin : ∀ (t : Nat → AV) (hh : Heap) (n : Nat), t 6 = BoolV true → (∀ id, id < b → hh id = h id) → Am.Ends Tryd.prog ⟨Tryd.f6.ntmps, b, ι, h, w, x0⟩ Tryd.f6 0 (fun r h' => r = BoolV true ∧ h' = h) ⟨t, hh, n⟩ := by
    intro t hh n ht ho
    exact Ends.pure hn H ho (r0 := BoolV true) (by rw [show Tryd.f6.results.toList = [.tmp 6] from rfl]; exact Ecf @ht) (.v _) ⟨rfl, rfl⟩
  refine Rk ?_
  refine Rg (fun E K hE hK => ?_)
  refine Us (live_ok _ _) body_8 ?_
  refine hK _ _ _ ?_; clear hE hK K E
  cases c0 : fewT l
  · refine AWP.seq ?_
    refine Rg (fun E K hE hK => ?_)
    refine Us (fewT_ok l (by omega) _ _) body_9 ?_
    refine Evf @c0 ?_
    refine hK _ _ _ ?_; clear hE hK K E
    refine Bt ?_
    refine Rk ?_
    refine AWP.ret ?_
    refine Ev ?_
    exact fin _ _ _ (by exact Er) Ou
  have hll := fewT_len c0
  have hnm := fewT_names c0
  by_cases c1 : (200 : Int) < f.name.length
  · refine AWP.seq ?_
    refine Rg (fun E K hE hK => ?_)
    refine Us (fewT_ok l (by omega) _ _) body_9 ?_
    refine Evf (jn3 @c0 @sz @c1) ?_
    refine hK _ _ _ ?_; clear hE hK K E
    refine Bt ?_
    refine Rk ?_
    refine AWP.ret ?_
    refine Ev ?_
    exact fin _ _ _ (by exact Er) Ou
  by_cases c2 : (9000 : Int) < s.length ∧ (s.length : Int) ≤ 65536
  · obtain ⟨c2, c3⟩ := c2
    refine AWP.seq ?_
    refine Rg (fun E K hE hK => ?_)
    refine Us (fewT_ok l (by omega) _ _) body_9 ?_
    refine Evf (jn6 @c0 @sz @c1 @hlo @c2 @c3) ?_
    refine hK _ _ _ ?_; clear hE hK K E
    refine Bt ?_
    refine Rk ?_
    refine AWP.ret ?_
    refine Ev ?_
    exact fin _ _ _ (by exact Er) Ou
  by_cases c4 : (70000 : Int) < s.length
  · refine AWP.seq ?_
    have c2' : (9000 : Int) < s.length := by omega
    have c3' : ¬ (s.length : Int) ≤ 65536 := by omega
    refine Rg (fun E K hE hK => ?_)
    refine Us (fewT_ok l (by omega) _ _) body_9 ?_
    refine Evf (jn7 @c0 @sz @c1 @hlo @c2' @c3' @c4) ?_
    refine hK _ _ _ ?_; clear hE hK K E
    refine Bt ?_
    refine Rk ?_
    refine AWP.ret ?_
    refine Ev ?_
    exact fin _ _ _ (by exact Er) Ou
  refine AWP.mid (fun st => st.n = 1 ∧ st.h = upd h b ⟨0, (encF f).map .p⟩ ∧ st.t 0 = FlsV l ∧ st.t 2 = OctV s ∧ st.t 4 = .one (.ptr b 0 0) ∧ st.t 7 = BoolV true) ?_ ?_
  · by_cases c2' : (9000 : Int) < s.length
    · have c3' : ¬ (s.length : Int) ≤ 65536 := by omega
      refine Rg (fun E K hE hK => ?_)
      refine Us (fewT_ok l (by omega) _ _) body_9 ?_
      refine Evf (jn7 @c0 @sz @c1 @hlo @c2' @c3' @c4) ?_
      refine hK _ _ _ ?_; clear hE hK K E
      refine Bf ?_
      exact AWP.skip ⟨rfl, rfl, by exact Er, by exact Er, by exact Er, by exact Er⟩
    · refine Rg (fun E K hE hK => ?_)
      refine Us (fewT_ok l (by omega) _ _) body_9 ?_
      refine Evf (jn6 @c0 @sz @c1 @hlo @c2' @c4) ?_
      refine hK _ _ _ ?_; clear hE hK K E
      refine Bf ?_
      exact AWP.skip ⟨rfl, rfl, by exact Er, by exact Er, by exact Er, by exact Er⟩
  rintro ⟨t, hh, n⟩ ⟨hn0, hh0, e0, e2, e4, e7⟩
  simp only at hn0 hh0 e0 e2 e4 e7
  subst hn0
  subst hh0
  have hfn : f.name.length ≤ 1000 := by omega
  obtain ⟨bl1, be1, hby⟩ : ∃ x e, bytesR l = (x, e) := ⟨_, _, rfl⟩
  obtain ⟨ol1, oe1, hon⟩ : ∃ x e, oneB f = (x, e) := ⟨_, _, rfl⟩
  obtain ⟨ll1, le1, hlg⟩ : ∃ x e, longR l = (x, e) := ⟨_, _, rfl⟩
  obtain ⟨m, fe, hfm⟩ : ∃ x e, fromR s = (x, e) := ⟨_, _, rfl⟩
  have hml : m.length ≤ 1000000 := Nat.le_trans (fromR_len hfm) (by omega)
  have cfrom := fun (hh : Heap) (b' : Nat) => fromW_ok s (by omega) hh b'
  rw [hfm] at cfrom
  have cref := fun (hh : Heap) (b' : Nat) => refFrom_ok s (by omega) hh b'
  rw [refFrom_eq, hfm] at cref
  refine Rkf (jn3 @e2 @oe @ho8) ?_
  refine Rgf @e0 (fun E K hE hK => ?_)
  refine Us (bytes_ok l hs (by omega) _ _) body_10 ?_
  refine Evf @hby ?_
  refine hK _ _ _ ?_; clear hE hK K E
  refine Rgf @e0 (fun E K hE hK => ?_)
  refine Us (refBytes_ok l hr hs hnm (by omega) _ _) body_15 ?_
  refine Evf @hby ?_
  refine hK _ _ _ ?_; clear hE hK K E
  refine Rgf @e4 (fun E K hE hK => ?_)
  refine Us (one_ok f hfs _ _) body_11 ?_
  refine Evf @hon ?_
  refine hK _ _ _ ?_; clear hE hK K E
  refine Rgf @e4 (fun E K hE hK => ?_)
  refine Us (refOne_ok f hfr hfs hfn _ _) body_16 ?_
  refine Evf @hon ?_
  refine hK _ _ _ ?_; clear hE hK K E
  refine Rgf @e0 (fun E K hE hK => ?_)
  refine Us (long_ok l hs (by omega) _ _) body_17 ?_
  refine Evf @hlg ?_
  refine hK _ _ _ ?_; clear hE hK K E
  refine Rgf @e0 (fun E K hE hK => ?_)
  refine Us (refLong_ok l hr hs hnm (by omega) _ _) body_18 ?_
  refine Evf (jn2 @longB_eq @hlg) ?_
  refine hK _ _ _ ?_; clear hE hK K E
  refine Rgf @e2 (fun E K hE hK => ?_)
  refine CallR.use (cfrom _ _) body_14 ?_
  rintro _ _ ⟨v, k, T, x2, x3, rfl, rfl⟩
  refine Ev ?_
  refine hK _ _ _ ?_; clear hE hK K E
  refine Rgf @e2 (fun E K hE hK => ?_)
  refine Us (cref _ _) body_19 ?_
  refine hK _ _ _ ?_; clear hE hK K E
  refine Rg (fun E K hE hK => ?_)
  refine Us (sameB_self bl1 _ _) body_12 ?_
  refine Us (sameB_self ol1 _ _) body_12 ?_
  refine Us (sameW_lend (m := m) (T := T) hml (by exact Er) _) body_20 ?_
  refine hK _ _ _ ?_; clear hE hK K E
  refine Am.AWP.genT (wdo b h m s v k T) ⟨rfl, ⟨m, rfl, by exact Er⟩, Ou, by exact Erf @e2, by exact Erf @e7, by exact Er, by exact Er, by exact Er⟩ ?_
  clear cfrom cref
  rintro ⟨t, hh, n⟩ ⟨hn1, ⟨r, lr, hb⟩, ho, e2, e7, e8, e21, e25⟩
  simp only at hb ho e2 e7 e8 e21 e25 hn1
  subst hn1
  refine AWP.mid (wdo b h m s v k T) ?_ ?_
  · refine AWP.seqReg (by kernel_rfl) (fun E K hE hK => ?_); simp -implicitDefEqProofs only [go_sem, ↓reduceIte, Nat.reduceEqDiff, Nat.reduceAdd, Nat.reduceLT, Nat.reduceLeDiff, reduceCtorEq, Int.toNat_natCast, e21, hb, rowB]; refine hK _ _ _ ?_; clear hE hK K E
    refine AWP.block ?_
    refine AWP.loopK 2 (fun z st => ∃ i, i ≤ m.length ∧ z = m.length - i ∧ wdo b h m s v k T st ∧ st.t 134 = IntV m.length ∧ st.t 135 = IntV (i : Nat)) m.length rfl ⟨0, Nat.zero_le _, rfl, ⟨rfl, ⟨r, lr, hb⟩, ho, by exact Erf @e2, by exact Erf @e7, by exact Erf @e8, by exact Erf @e21, by exact Erf @e25⟩, by exact Er, by exact Er⟩ ?_
    clear hb ho lr r e2 e7 e8 e21 e25
    rintro z ⟨t, hh, n⟩ ⟨i, hi, rfl, ⟨hn2, ⟨r, lr, hb⟩, ho, e2, e7, e8, e21, e25⟩, eB, eC⟩ hn1
    simp only at hb ho e2 e7 e8 e21 e25 eB eC hn1
    clear hn2
    subst hn1
    refine Rkf (jn2 @eB @eC) ?_
    refine AWP.seq ?_
    by_cases hlt : (i : Int) < m.length
    · have hw1 : IntKind.i64.wrap ((i : Int) + 1) = ((i + 1 : Nat) : Int) := by rw [wrap_i64 (by omega) (by omega)]; rfl
      have hi2 : i < r.length := by omega
      have hr5 : (List.map Cell.p (r.map encF).flatten ++ T)[i * 6 + 5]? = some (.p (.v (.int .i64 r[i].len))) := row_len5 r T v i hi2
      have hst := row_set5 r T i hi2 (IntKind.i64.wrap (r[i].len + 1))
      have hb' : hh (b + 1) = some ⟨v, List.map Cell.p (r.map encF).flatten ++ T⟩ := hb
      have hlL : (List.map Cell.p (r.map encF).flatten ++ T).length = r.length * 6 + T.length := by rw [List.length_append, List.length_map, okEs_len (okEs_fl _), List.length_map]
      generalize hL : List.map Cell.p (r.map encF).flatten ++ T = L at hb' hr5 hst hlL
      refine Btf @hlt ?_
      refine AWP.skip ?_
      refine Ev ?_
      refine AWP.seq ?_
      refine AWP.block ?_
      refine Rkf @eC ?_
      refine Raf (jn4 @e21 @hb' @hlt @hr5) (fun E K hE hK => ?_)
      repeat (refine ⟨by omega, ?_⟩)
      rw [hst]
      refine hK _ _ _ ?_; clear hE hK K E
      refine Ev ?_
      refine Raf (jn2 @eC @hw1) (fun E K hE hK => ?_); refine hK _ _ _ ?_; clear hE hK K E
      exact ⟨rfl, m.length - (i + 1), by omega, i + 1, by omega, rfl, ⟨rfl, ⟨r.set i { r[i] with len := IntKind.i64.wrap (r[i].len + 1) }, by rw [List.length_set]; exact lr, by exact Er⟩, (fun id (hid : id < b) => by simp -implicitDefEqProofs only [go_sem, ↓reduceIte, Nat.reduceEqDiff, Nat.reduceAdd, Nat.reduceLT, Nat.reduceLeDiff, reduceCtorEq, Int.toNat_natCast, show ¬ id = b by omega, show ¬ id = b + 1 by omega, ho id hid]), by exact Ecf @e2, by exact Ecf @e7, by exact Ecf @e8, by exact Ecf @e21, by exact Ecf @e25⟩, by exact Ecf @eB, by exact Er⟩
    · refine Bff @hlt ?_
      refine AWP.exit ?_
      refine Ev ?_
      exact ⟨rfl, ⟨r, lr, hb⟩, ho, e2, e7, e8, e21, e25⟩
  rintro ⟨t, hh, n⟩ ⟨hn1, ⟨r, lr, hb⟩, ho, e2, e7, e8, e21, e25⟩
  simp only at hb ho e2 e7 e8 e21 e25 hn1
  subst hn1
  have hms : decide (s = (mkS s).data.toList) = true := decide_eq_true rfl
  refine Rkf (jn7 @e2 @e7 @e8 @e25 @oe @ho8 @hms) ?_
  refine AWP.ret ?_
  exact fin _ _ _ (by exact Er) ho
end Go.Proofs.YthnhpbihgalgeaaDoor
