/-
  Which one comes first: cmp.Compare, slices.Compare, strings.Split, name.Cmp; strings.Split at a slash; name.Cmp.
-/
import Derived.Test.YtengjcdilnikhaaDoorNmW1
namespace Go.Proofs.YtengjcdilnikhaaDoor
set_option linter.unusedSimpArgs false
set_option linter.unusedVariables false
set_option linter.unnecessarySimpa false
open Go Am
set_option maxRecDepth 100000

theorem bytesLess_cmp : ∀ a b : S, Op.bytesLess a b = decide (cmpS a b < 0)
  | [], [] => rfl
  | [], _ :: _ => rfl
  | _ :: _, [] => rfl
  | x :: a, y :: b => by
    have ih := bytesLess_cmp a b
    unfold Op.bytesLess
    have e : cmpS (x :: a) (y :: b) = if cmpU x y ≠ 0 then cmpU x y else cmpS a b := rfl
    rw [e]
    by_cases h1 : x.toNat < y.toNat
    · have : cmpU x y = -1 := by unfold cmpU; rw [if_pos h1]
      rw [this]
      have hlt : x < y := h1
      simp [hlt]
    · by_cases h2 : y.toNat < x.toNat
      · have : cmpU x y = 1 := by unfold cmpU; rw [if_neg h1, if_pos h2]
        rw [this]
        have hne : x ≠ y := fun e => by subst e; exact absurd h2 (Nat.lt_irrefl _)
        have hlt : ¬ x < y := h1
        simp [hlt, hne]
      · have hxy : x = y := by rw [← UInt8.toNat_inj]; omega
        have : cmpU x y = 0 := by unfold cmpU; rw [if_neg h1, if_neg h2]
        rw [this, ih]
        subst hxy
        simp

abbrev encS (p : S) : List PD := [.v (.string (mkS p))]
abbrev ListV (xs : List S) : AV := .one (.p (.sl 1 (xs.map encS)))

theorem isNaN_ok (s : ByteArray) (h : Heap) (b : Nat) : ACalls Tryd.prog 136 [StrB s] h b 0 (fun r h' => r = BoolV false ∧ h' = h) := by
  refine ACalls.enter Tryd.func136 rfl (by simp [Tryd.ntmps136]) (fun ι w hn H => ?_)
  refine Rk ?_
  refine Rk ?_
  refine AWP.ret ?_
  exact Ends.pure hn H (fun _ _ => rfl) (r0 := BoolV false) (by rw [show Tryd.f136.results.toList = [.tmp 2] from rfl]; exact Er) (.v _) ⟨rfl, rfl⟩

theorem cmpStr_ok (s q : ByteArray) (h : Heap) (b : Nat) : ACalls Tryd.prog 122 [StrB s, StrB q] h b 0 (fun r h' => r = IntV (cmpS (bl s) (bl q)) ∧ h' = h) := by
  refine ACalls.enter Tryd.func122 rfl (by simp [Tryd.ntmps122]) (fun ι w hn H => ?_)
  have fin : ∀ (t : Nat → AV) (n : Nat) (v : Int), t 4 = IntV v → v = cmpS (bl s) (bl q) → Am.Ends Tryd.prog ⟨Tryd.f122.ntmps, b, ι, h, w, x0⟩ Tryd.f122 0 (fun r h' => r = IntV (cmpS (bl s) (bl q)) ∧ h' = h) ⟨t, h, n⟩ := by
    intro t n v ht hv
    exact Ends.pure hn H (fun _ _ => rfl) (r0 := IntV v) (by rw [show Tryd.f122.results.toList = [.tmp 4] from rfl]; exact Ecf @ht) (.v _) ⟨by rw [hv], rfl⟩
  have hr := cmpS_tot.rng (bl s) (bl q)
  have hz := cmpS_tot.eq0 (bl s) (bl q)
  refine Rk ?_
  refine Rg (fun E K hE hK => ?_)
  refine Us (isNaN_ok s _ _) body_136 ?_
  refine hK _ _ _ ?_; clear hE hK K E
  refine Rg (fun E K hE hK => ?_)
  refine Us (isNaN_ok q _ _) body_136 ?_
  refine hK _ _ _ ?_; clear hE hK K E
  refine AWP.seq ?_
  refine Rk ?_
  refine Bs ?_
  refine AWP.seq ?_
  refine Rk ?_
  refine Bs ?_
  refine AWP.seq ?_
  have hbl := bytesLess_cmp (bl s) (bl q)
  by_cases h1 : cmpS (bl s) (bl q) < 0
  · rw [decide_eq_true h1] at hbl
    refine Rkf @hbl ?_
    refine Bt ?_
    refine Rk ?_
    refine AWP.ret ?_
    refine Ev ?_
    exact fin _ _ (-1) (by exact Er) (by omega)
  · rw [decide_eq_false h1] at hbl
    refine Rkf @hbl ?_
    refine Bs ?_
    refine AWP.seq ?_
    by_cases h2 : bl s = bl q
    · have h0 := hz.2 h2
      refine Rkf (jn2 @hbl @h2) ?_
      refine Bsf @Bool.or_true ?_
      refine Rk ?_
      refine AWP.ret ?_
      exact fin _ _ 0 (by exact Er) h0.symm
    · have h0 : ¬ cmpS (bl s) (bl q) = 0 := fun e => h2 (hz.1 e)
      refine Rkf (jn2 @hbl @h2) ?_
      refine Btf @Bool.or_false ?_
      refine Rk ?_
      refine AWP.ret ?_
      refine Ev ?_
      exact fin _ _ 1 (by exact Er) (by omega)

theorem encS_getD (xs : List S) (i : Nat) (h : i < xs.length) : (xs.map encS).getD i [] = [.v (.string (mkS xs[i]))] := by simp [List.getD, h]

def cmpI (xs ys : List S) (h : Heap) (i : Nat) (st : St) : Prop :=
  st.h = h ∧ st.t 0 = ListV xs ∧ st.t 1 = ListV ys ∧ st.t 9 = ListV xs ∧ st.t 10 = IntV xs.length ∧ st.t 11 = IntV i ∧ i ≤ ys.length ∧ cmpP xs ys = cmpP (xs.drop i) (ys.drop i)

theorem cmpList_ok (xs ys : List S) (hx : xs.length ≤ 1000) (hy : ys.length ≤ 1000) (h : Heap) (b : Nat) : ACalls Tryd.prog 95 [ListV xs, ListV ys] h b 0 (fun r h' => r = IntV (cmpP xs ys) ∧ h' = h) := by
  refine ACalls.enter Tryd.func95 rfl (by simp [Tryd.ntmps95]) (fun ι w hn H => ?_)
  have fin : ∀ (t : Nat → AV) (n : Nat) (v : Int), t 4 = IntV v → v = cmpP xs ys → Am.Ends Tryd.prog ⟨Tryd.f95.ntmps, b, ι, h, w, x0⟩ Tryd.f95 0 (fun r h' => r = IntV (cmpP xs ys) ∧ h' = h) ⟨t, h, n⟩ := by
    intro t n v ht hv
    exact Ends.pure hn H (fun _ _ => rfl) (r0 := IntV v) (by rw [show Tryd.f95.results.toList = [.tmp 4] from rfl]; exact Ecf @ht) (.v _) ⟨by rw [hv], rfl⟩
  refine Rk ?_
  refine AWP.seq ?_
  refine Rk ?_
  refine AWP.block ?_
  refine AWP.loopK 0 (fun m st => ∃ i, m = xs.length - i ∧ i ≤ xs.length ∧ cmpI xs ys h i st) xs.length rfl ⟨0, rfl, Nat.zero_le _, rfl, by exact Er, by exact Er, by exact Er, by exact Er, by exact Er, Nat.zero_le _, rfl⟩ ?_
  rintro m ⟨t, hh, n⟩ ⟨i, rfl, hi, rfl, e0, e1, e9, e10, e11, hiy, hc⟩ hn1
  simp only at e0 e1 e9 e10 e11 hn1
  subst hn1
  refine Rkf (jn2 @e10 @e11) ?_
  refine AWP.seq ?_
  by_cases hlt : (i : Int) < xs.length
  · refine Btf @hlt ?_
    refine AWP.skip ?_
    refine Ev ?_
    refine AWP.seq ?_
    refine AWP.block ?_
    have hi2 : i < xs.length := by omega
    have hdx := List.drop_eq_getElem_cons hi2
    refine AWP.seqReg (by kernel_rfl) (fun E K hE hK => ?_); simp -implicitDefEqProofs only [go_sem, ↓reduceIte, Nat.reduceEqDiff, Nat.reduceAdd, Nat.reduceLT, Nat.reduceLeDiff, reduceCtorEq, Int.toNat_natCast, e9, e11, List.length_map, hlt, encS_getD xs i hi2]
    refine ⟨by omega, ?_⟩
    refine hK _ _ _ ?_; clear hE hK K E
    refine AWP.seq ?_
    refine Rkf @e1 ?_
    by_cases h1 : (ys.length : Int) ≤ i
    · refine Btf @h1 ?_
      refine Rk ?_
      refine AWP.ret ?_
      refine Ev ?_
      refine fin _ _ 1 (by exact Er) ?_
      rw [hc, hdx, (List.drop_of_length_le (by omega) : ys.drop i = [])]; rfl
    · refine Bsf @h1 ?_
      have hiy2 : i < ys.length := by omega
      have hlty : (i : Int) < ys.length := by omega
      have hdy := List.drop_eq_getElem_cons hiy2
      refine AWP.seqReg (by kernel_rfl) (fun E K hE hK => ?_); simp -implicitDefEqProofs only [go_sem, ↓reduceIte, Nat.reduceEqDiff, Nat.reduceAdd, Nat.reduceLT, Nat.reduceLeDiff, reduceCtorEq, Int.toNat_natCast, e1, e11, List.length_map, hlty, encS_getD ys i hiy2]
      refine ⟨by omega, ?_⟩
      refine hK _ _ _ ?_; clear hE hK K E
      refine Rg (fun E K hE hK => ?_)
      refine Us (cmpStr_ok (mkS xs[i]) (mkS ys[i]) _ _) body_122 ?_
      refine Evf @mkS_list ?_
      refine hK _ _ _ ?_; clear hE hK K E
      refine Rk ?_
      have hstep : cmpP xs ys = if cmpS xs[i] ys[i] ≠ 0 then cmpS xs[i] ys[i] else cmpP (xs.drop (i + 1)) (ys.drop (i + 1)) := by
        rw [hc, hdx, hdy]; rfl
      by_cases h2 : cmpS xs[i] ys[i] = 0
      · rw [if_neg (by simp [h2])] at hstep
        refine Bff @h2 ?_
        refine AWP.skip ?_
        refine Ev ?_
        refine Raf @e11 (fun E K hE hK => ?_); refine hK _ _ _ ?_; clear hE hK K E
        refine ⟨rfl, _, ?_, i + 1, rfl, by omega, rfl, by exact Ecf @e0, by exact Ecf @e1, by exact Ecf @e9, by exact Ecf @e10, ?_, by omega, hstep⟩
        · omega
        · refine Ev ?_; rw [wrap_i64 (by omega) (by omega)]; rfl
      · rw [if_pos h2] at hstep
        refine Btf @h2 ?_
        refine Rk ?_
        refine AWP.ret ?_
        refine Ev ?_
        exact fin _ _ _ (by exact Er) hstep.symm
  · refine Bff @hlt ?_
    refine AWP.exit ?_
    refine Ev ?_
    have hi2 : i = xs.length := by omega
    subst hi2
    rw [List.drop_of_length_le (Nat.le_refl _)] at hc
    refine AWP.seq ?_
    refine Rkf (jn2 @e0 @e1) ?_
    by_cases h1 : (xs.length : Int) < ys.length
    · refine Btf @h1 ?_
      refine Rk ?_
      refine AWP.ret ?_
      refine Ev ?_
      refine fin _ _ (-1) (by exact Er) ?_
      rw [hc, List.drop_eq_getElem_cons (by omega)]; rfl
    · refine Bsf @h1 ?_
      refine Rk ?_
      refine AWP.ret ?_
      refine fin _ _ 0 (by exact Er) ?_
      rw [hc, List.drop_of_length_le (by omega)]; rfl

end Go.Proofs.YtengjcdilnikhaaDoor

namespace Go.Proofs.YtengjcdilnikhaaDoor
set_option linter.unusedSimpArgs false
set_option linter.unusedVariables false
set_option linter.unnecessarySimpa false
open Go Am
set_option maxRecDepth 100000

theorem countByte_parts (l : S) : (Lib.countByte l 47 : Int) + 1 = ((parts l).length : Int) := by
  have : Lib.countByte l 47 + 1 = (parts l).length := by
    unfold Lib.countByte
    induction l with
    | nil => rfl
    | cons c l ih =>
      by_cases hc : c = 47
      · subst hc; rw [parts_sl, List.length_cons, ← ih]; simp
      · obtain ⟨p, ps, hp⟩ := parts_ex l
        rw [parts_cons hc hp]
        rw [hp] at ih
        rw [List.count_cons_of_ne hc]; simpa using ih
  omega

theorem parts_len (l : S) : (parts l).length ≤ l.length + 1 := by
  have h1 := len_wt (parts l)
  have h2 := joinS_wt (parts_ne l)
  rw [joinS_parts] at h2
  -- each part bears one
  have : ∀ ps : List S, ps.length ≤ wt ps := len_wt
  have e : ∀ ps : List S, ps ≠ [] → ps.length ≤ (joinS ps).length + 1 := fun ps hne => by have := joinS_wt hne; have := len_wt ps; omega
  have := e (parts l) (parts_ne l)
  rw [joinS_parts] at this
  exact this

theorem repl_str (n : Nat) : repl ([Value.string ByteArray.empty].map fun v => Cell.p (.v v)) n = (List.replicate n ([] : S)).map strC := by
  induction n with
  | zero => rfl
  | succ n ih => rw [List.replicate_succ, List.map_cons (l := List.replicate n ([] : S)), ← ih]; rfl

theorem okEs_str (xs : List S) : okEs 1 (xs.map encS) := fun e he => by
  obtain ⟨x, _, rfl⟩ := List.mem_map.1 he
  exact ⟨rfl, fun d hd => by simp at hd; subst hd; rfl⟩

theorem flat_str (xs : List S) : (xs.map encS).flatten.map Cell.p = xs.map strC := by
  induction xs with
  | nil => rfl
  | cons x xs ih => rw [List.map_cons, List.flatten_cons, List.map_append, ih]; rfl

/-- at the head of genSplit's loop -/
def gspI (l0 : S) (h : Heap) (b : Nat) (d : List S) (rest : S) (st : St) : Prop :=
  st.n = 1 ∧ st.h b = some ⟨0, (d ++ List.replicate ((parts l0).length - d.length) []).map strC⟩ ∧ (∀ id, id < b → st.h id = h id) ∧ st.t 0 = StrB (mkS rest) ∧ st.t 1 = StrB ⟨#[47]⟩ ∧ st.t 2 = IntV 0 ∧ st.t 3 = IntV ((parts l0).length - 1) ∧
    st.t 9 = .one (.win b 0 0 (parts l0).length (parts l0).length) ∧ st.t 10 = IntV d.length ∧ parts l0 = d ++ parts rest ∧ rest.length ≤ 1000

theorem gsp_cells (d : List S) (k : Nat) (p : S) (hk : 0 < k) : List.take (d.length * 1) (List.map strC (d ++ List.replicate k [])) ++ strC p :: List.drop (d.length * 1 + 1) (List.map strC (d ++ List.replicate k [])) = ((d ++ [p]) ++ List.replicate (k - 1) []).map strC := by
  obtain ⟨k, rfl⟩ : ∃ j, k = j + 1 := ⟨k - 1, by omega⟩
  rw [Nat.mul_one, List.map_append, List.take_left' (by simp), List.replicate_succ]
  have e : (d.map strC ++ ([] :: List.replicate k ([] : S)).map strC).drop (d.length + 1) = (List.replicate k ([] : S)).map strC := by
    rw [← List.drop_drop, List.drop_left' (by simp)]; rfl
  rw [e]
  simp

theorem genSplit_ok (s : ByteArray) (hs : s.size ≤ 1000) (h : Heap) (b : Nat) : ACalls Tryd.prog 123 [StrB s, StrB ⟨#[47]⟩, IntV 0, IntV (-1)] h b 0 (fun r h' => r = ListV (parts (bl s)) ∧ h' = h) := by
  refine ACalls.enter Tryd.func123 rfl (by simp [Tryd.ntmps123]) (fun ι w hn H => ?_)
  have hlen := bl_len s
  have hcnt := countByte_parts (bl s)
  have hpl := parts_len (bl s)
  have hp0 : 0 < (parts (bl s)).length := List.length_pos_iff.2 (parts_ne _)
  refine Rk ?_
  refine AWP.seq ?_
  refine Rk ?_
  refine AWP.ifF (by simp -implicitDefEqProofs only [go_sem, ↓reduceIte, Nat.reduceEqDiff, Nat.reduceAdd, Nat.reduceLT, Nat.reduceLeDiff, reduceCtorEq, Int.toNat_natCast, Int.reduceEq, Int.reduceNeg]) ?_; refine AWP.skip ?_; simp -implicitDefEqProofs only [go_sem, ↓reduceIte, Nat.reduceEqDiff, Nat.reduceAdd, Nat.reduceLT, Nat.reduceLeDiff, reduceCtorEq, Int.toNat_natCast]
  refine AWP.seq ?_
  refine Rkf (jn2 @toL1 @toL0) ?_
  refine Bs ?_
  refine AWP.seq ?_
  refine AWP.seqReg (by kernel_rfl) (fun E K hE hK => ?_); simp -implicitDefEqProofs only [go_sem, ↓reduceIte, Nat.reduceEqDiff, Nat.reduceAdd, Nat.reduceLT, Nat.reduceLeDiff, reduceCtorEq, Int.toNat_natCast, Int.reduceLT, Int.reduceNeg]; refine hK _ _ _ ?_; clear hE hK K E
  refine Bt ?_
  have hw : IntKind.i64.wrap ((Lib.countByte (bl s) 47 : Int) + 1) = ((parts (bl s)).length : Int) := by rw [wrap_i64 (by omega) (by omega)]; exact hcnt
  refine Ra (fun E K hE hK => ?_)
  refine Us (count_ok s _ _) body_138 ?_
  refine Evf @hw ?_
  refine hK _ _ _ ?_; clear hE hK K E
  refine Ev ?_
  have hw2 : IntKind.i64.wrap ((s.size : Int) + 1) = s.size + 1 := wrap_i64 (by omega) (by omega)
  have hmin : min ((parts (bl s)).length : Int) ((s.size : Int) + 1) = ((parts (bl s)).length : Int) := by omega
  refine Rkf (jn2 @hw2 @hmin) ?_
  refine Rg (fun E K hE hK => ?_)
  refine MkR.of ?_
  refine MkK.make (e := 9) (sz := 1) (bytes := 16) ty_slE_23 ty_tsz_9 ty_tzero_9 rfl ty_tby_9 (Nat.le_refl _) (by omega) (by omega) ?_
  rw [repl_str]
  refine Ev ?_
  refine hK _ _ _ ?_; clear hE hK K E
  have hw3 : IntKind.i64.wrap (((parts (bl s)).length : Int) - 1) = ((parts (bl s)).length : Int) - 1 := wrap_i64 (by omega) (by omega)
  refine Rkf @hw3 ?_
  refine Rk ?_
  refine AWP.mid (fun st => ∃ d rest, gspI (bl s) h b d rest st ∧ (47 : UInt8) ∉ rest) ?_ ?_
  · refine AWP.block ?_
    refine AWP.loopK 1 (fun m st => ∃ d rest, m = rest.length ∧ gspI (bl s) h b d rest st) (bl s).length rfl ⟨[], bl s, rfl, rfl, by exact Er, Ou, by rw [mkS_of]; exact Er, by exact Er, by exact Er, by exact Er, by exact Er, by exact Er, rfl, by omega⟩ ?_
    rintro m ⟨t, hh, n⟩ ⟨d, rest, rfl, hn0, hb, ho, e0, e1, e2, e3, e9, e10, hp, hrl⟩ hn1
    simp only at hn0 hb ho e0 e1 e2 e3 e9 e10
    subst hn0
    have hpp := congrArg List.length hp
    rw [List.length_append] at hpp
    refine AWP.seq ?_
    refine Rkf (jn2 @e3 @e10) ?_
    rcases parts_cut rest with ⟨h1, h2⟩ | ⟨p, q, rfl, h1, h2⟩
    · rw [h2] at hpp
      have hlt : ¬ (d.length : Int) < (parts (bl s)).length - 1 := by simp at hpp; omega
      refine Bff @hlt ?_
      refine AWP.exit ?_
      refine Ev ?_
      exact ⟨d, rest, ⟨rfl, hb, ho, by exact Ecf @e0, by exact Ecf @e1, by exact Ecf @e2, by exact Ecf @e3, by exact Ecf @e9, by exact Ecf @e10, hp, hrl⟩, h1⟩
    · have hq0 : 0 < (parts q).length := List.length_pos_iff.2 (parts_ne _)
      rw [h2, List.length_cons] at hpp
      have hlt : (d.length : Int) < (parts (bl s)).length - 1 := by omega
      have hlt2 : (d.length : Int) < (parts (bl s)).length := by omega
      refine Btf @hlt ?_
      refine AWP.skip ?_
      refine Ev ?_
      refine AWP.block ?_
      have sl : (mkS (p ++ 47 :: q)).data.toList = p ++ 47 :: q := rfl
      have hpl : p.length ≤ 1000 := by rw [List.length_append] at hrl; omega
      have hw0 : IntKind.i64.wrap ((p.length : Int) + 0) = p.length := by rw [wrap_i64 (by omega) (by omega)]; omega
      have hw1 : IntKind.i64.wrap ((p.length : Int) + 1) = ((p.length + 1 : Nat) : Int) := by rw [wrap_i64 (by omega) (by omega)]; omega
      have hx0 : (mkS (p ++ 47 :: q)).extract 0 p.length = mkS p := by rw [mkS_extract]; simp
      have hx1 : (mkS (p ++ 47 :: q)).extract (p.length + 1) (mkS (p ++ 47 :: q)).size = mkS q := by
        rw [mkS_extract, mkS_size]
        congr 1
        rw [show p ++ 47 :: q = (p ++ [47]) ++ q by simp, List.drop_append_of_le_length (by simp), List.drop_eq_nil_of_le (by simp), List.nil_append]
        exact List.take_of_length_le (by simp; omega)
      have hs47 : (((#[(47 : UInt8)] : Array UInt8).size : Nat) : Int) = 1 := rfl
      have hms : ((mkS (p ++ 47 :: q)).size : Int) = p.length + 1 + q.length := by rw [mkS_size]; simp; omega
      have hlt0 : ¬ ((p.length : Int)) < 0 := by omega
      refine Rgf (jn2 @e0 @e1) (fun E K hE hK => ?_)
      refine Us (index_ok (mkS (p ++ 47 :: q)) _ _) body_139 ?_
      simp -implicitDefEqProofs only [go_sem, ↓reduceIte, Nat.reduceEqDiff, Nat.reduceAdd, Nat.reduceLT, Nat.reduceLeDiff, reduceCtorEq, Int.toNat_natCast, sl, indexByte_some h1]
      refine hK _ _ _ ?_; clear hE hK K E
      refine AWP.seq ?_
      refine Rk ?_
      refine Bsf @hlt0 ?_
      refine Rgf (jn2 @e0 (jn7 @e2 @e9 @e10 @hw0 @hx0 @hb @hlt2)) (fun E K hE hK => ?_)
      refine ⟨rfl, ⟨by omega, by omega⟩, by omega, by simp; omega, ?_⟩
      have hcl := gsp_cells d ((parts (bl s)).length - d.length) p (by omega)
      rw [show strC p = Cell.p (.v (.string (mkS p))) from rfl] at hcl
      rw [hcl]
      refine hK _ _ _ ?_; clear hE hK K E
      refine Rgf (jn5 @e0 @e1 @hs47 @hw1 @hx1) (fun E K hE hK => ?_)
      refine ⟨rfl, ⟨by omega, by omega⟩, ?_⟩
      refine hK _ _ _ ?_; clear hE hK K E
      have hw4 : IntKind.i64.wrap ((d.length : Int) + 1) = ((d.length + 1 : Nat) : Int) := by rw [wrap_i64 (by omega) (by omega)]; rfl
      refine Raf (jn2 @e10 @hw4) (fun E K hE hK => ?_); refine hK _ _ _ ?_; clear hE hK K E
      refine Ev ?_
      refine ⟨_, ?_, d ++ [p], q, rfl, rfl, ?_, (Ouf @ho), by exact Ec, by exact Ecf @e1, by exact Ecf @e2, by exact Ecf @e3, by exact Ecf @e9, by rw [List.length_append]; exact Er, by rw [hp, h2]; simp, by rw [List.length_append] at hrl; simp at hrl; omega⟩
      · simp; omega
      · rw [List.length_append]; exact Erf @Nat.sub_sub
  · rintro ⟨t, hh, n⟩ ⟨d, rest, ⟨hn0, hb, ho, e0, e1, e2, e3, e9, e10, hp, hrl⟩, h1⟩
    simp only at hn0 hb ho e0 e1 e2 e3 e9 e10
    subst hn0
    rw [parts_one h1] at hp
    have hpp : (parts (bl s)).length = d.length + 1 := by rw [hp]; simp
    have hlt2 : (d.length : Int) < (parts (bl s)).length := by omega
    refine Rgf (jn5 @e0 @e9 @e10 @hb @hlt2) (fun E K hE hK => ?_)
    refine ⟨by omega, by simp; omega, ?_⟩
    have hcl := gsp_cells d ((parts (bl s)).length - d.length) rest (by omega)
    rw [show strC rest = Cell.p (.v (.string (mkS rest))) from rfl] at hcl
    rw [hcl, show (parts (bl s)).length - d.length - 1 = 0 by omega, List.replicate_zero, List.append_nil, ← hp]
    refine hK _ _ _ ?_; clear hE hK K E
    have hw4 : IntKind.i64.wrap ((d.length : Int) + 1) = ((parts (bl s)).length : Int) := by rw [wrap_i64 (by omega) (by omega)]; omega
    refine Rgf (jn3 @e9 @e10 @hw4) (fun E K hE hK => ?_)
    refine ⟨⟨by omega, by omega⟩, ?_⟩
    refine hK _ _ _ ?_; clear hE hK K E
    refine AWP.ret ?_
    refine Ends.pure hn H (Ouf @ho) (r0 := .one (.win b 0 0 ((parts (bl s)).map encS).length (parts (bl s)).length)) (by rw [show Tryd.f123.results.toList = [.tmp 8] from rfl]; exact Er) (.one (frz_row0 (sz := 1) (es := (parts (bl s)).map encS) (T := []) (Nat.le_refl _) (by rw [rowB, flat_str, List.append_nil]; exact Er) (okEs_str _))) ⟨rfl, rfl⟩

theorem strSplit_ok (s : ByteArray) (hs : s.size ≤ 1000) (h : Heap) (b : Nat) : ACalls Tryd.prog 96 [StrB s, StrB ⟨#[47]⟩] h b 0 (fun r h' => r = ListV (parts (bl s)) ∧ h' = h) := by
  refine ACalls.enter Tryd.func96 rfl (by simp [Tryd.ntmps96]) (fun ι w hn H => ?_)
  refine Rk ?_
  refine Rg (fun E K hE hK => ?_)
  refine Us (genSplit_ok s hs _ _) body_123 ?_
  refine hK _ _ _ ?_; clear hE hK K E
  refine AWP.ret ?_
  exact Ends.pure hn H (fun _ _ => rfl) (r0 := ListV (parts (bl s))) (by rw [show Tryd.f96.results.toList = [.tmp 4] from rfl]; exact Er) (frzV.p _) ⟨rfl, rfl⟩

theorem Cmp_ok (a c : ByteArray) (h : Heap) (b : Nat) : ACalls Tryd.prog 54 [StrB a, StrB c] h b 0 (fun r h' => r = .tup [IntV (cmpN (bl a) (bl c)).1, IntV (cmpN (bl a) (bl c)).2] ∧ h' = h) := by
  refine ACalls.enter Tryd.func54 rfl (by simp [Tryd.ntmps54]) (fun ι w hn H => ?_)
  have fin : ∀ (t : Nat → AV) (n : Nat) (v : Int × Int), t 4 = IntV v.1 → t 5 = IntV v.2 → v = cmpN (bl a) (bl c) → Am.Ends Tryd.prog ⟨Tryd.f54.ntmps, b, ι, h, w, x0⟩ Tryd.f54 0 (fun r h' => r = .tup [IntV (cmpN (bl a) (bl c)).1, IntV (cmpN (bl a) (bl c)).2] ∧ h' = h) ⟨t, h, n⟩ := by
    intro t n v ht ht2 hv
    exact Ends.pure hn H (fun _ _ => rfl) (r0 := .tup [IntV v.1, IntV v.2]) (by rw [show Tryd.f54.results.toList = [.tmp 4, .tmp 5] from rfl]; exact Ecf (jn2 @ht @ht2)) (frz_tup2 (.v _) (.v _)) ⟨by rw [hv], rfl⟩
  have hla := bl_len a
  have hlc := bl_len c
  refine Rk ?_
  refine AWP.seq ?_
  by_cases h1 : chkN (bl a) = 0
  · by_cases h2 : chkN (bl c) = 0
    · have ca := (chkN_zero.1 h1).1
      have cc := (chkN_zero.1 h2).1
      have pa := parts_len (bl a)
      have pc := parts_len (bl c)
      refine Rg (fun E K hE hK => ?_)
      refine Us (Check_ok a _ _) body_35 ?_
      refine Evf @h1 ?_
      refine Us (Check_ok c _ _) body_35 ?_
      refine Evf @h2 ?_
      refine hK _ _ _ ?_; clear hE hK K E
      refine Bs ?_
      refine Rg (fun E K hE hK => ?_)
      refine Us (strSplit_ok a (by omega) _ _) body_96 ?_
      refine Us (strSplit_ok c (by omega) _ _) body_96 ?_
      refine Us (cmpList_ok _ _ (by omega) (by omega) _ _) body_95 ?_
      refine hK _ _ _ ?_; clear hE hK K E
      refine AWP.ret ?_
      exact fin _ _ (cmpP (parts (bl a)) (parts (bl c)), 0) (by exact Er) (by exact Er) (by unfold cmpN; rw [if_neg (by simp [h1, h2])])
    · refine Rg (fun E K hE hK => ?_)
      refine Us (Check_ok a _ _) body_35 ?_
      refine Evf @h1 ?_
      refine Us (Check_ok c _ _) body_35 ?_
      refine Evf @h2 ?_
      refine hK _ _ _ ?_; clear hE hK K E
      refine Bt ?_
      refine Rk ?_
      refine AWP.ret ?_
      refine Ev ?_
      exact fin _ _ (0, 1) (by exact Er) (by exact Er) (by unfold cmpN; rw [if_pos (.inr h2)])
  · refine Rg (fun E K hE hK => ?_)
    refine Us (Check_ok a _ _) body_35 ?_
    refine Evf @h1 ?_
    refine hK _ _ _ ?_; clear hE hK K E
    refine Bt ?_
    refine Rk ?_
    refine AWP.ret ?_
    refine Ev ?_
    exact fin _ _ (0, 1) (by exact Er) (by exact Er) (by unfold cmpN; rw [if_pos (.inl h1)])

end Go.Proofs.YtengjcdilnikhaaDoor
