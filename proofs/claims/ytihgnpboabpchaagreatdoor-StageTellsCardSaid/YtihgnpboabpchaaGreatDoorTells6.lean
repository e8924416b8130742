/-
 Part 6 of the proof of stageTells_card: steps of the machine, walks and plain laws; each holds under the conditions that it states.
-/
import Derived.Test.YtihgnpboabpchaaGreatDoorTells5
import Derived.Test.YtihgnpboabpchaaGreatDoorTells3
import Derived.Test.YtihgnpboabpchaaGreatDoorTells4
namespace Go.Proofs.YtihgnpboabpchaaGreatDoor
set_option linter.unusedSimpArgs false
set_option linter.unusedVariables false
set_option linter.unnecessarySimpa false
open Go Am
set_option maxRecDepth 100000
theorem sreadBad_ok (e : Int) (p : S) (he : e ≠ 0) (h : Heap) (b W : Nat) (hW : W < b) (hw : h W = some ⟨0, seC e⟩) :
  ACalls Tryz.prog 58 [.one (.ptr W 0 0), StrV p] h b 0 (fun r h' => r = .tup [] ∧ h' = h) := by
 refine ACalls.enter Tryz.func58 rfl (by simp [Tryz.ntmps58]) (fun ι w hn H => ?_)
 refine Raf @hw (fun E K hE hK => ?_)
 refine Us (sputBad_ok e p he _ _ W hw) body_63 ?_
 refine Evf @hw ?_
 refine hK _ _ _ ?_; clear hE hK K E
 refine Ends.low (by rw [show Tryz.f58.results.toList = [] from rfl]; rfl) (.tup rfl (fun i c d hc => by simp at hc)) (fun id hid blk eb c hc => ?_) ⟨rfl, ?_⟩
 ·rw [upd_self hw] at eb
  exact H.lowCells id blk eb c hc
 ·exact lowH_eq (fun id hid => by rw [upd_self hw]) hn
theorem frz_sg0 {h : Heap} {b : Nat} : frzV h b (.agg [.p (.v (.int .u64 0)), .p (.v (.slice none 0 0)), .p (.v (.slice none 0 0)), .p (.v (.slice none 0 0)), .p (.v (.slice none 0 0))]) (SgV zSg) := by
 refine .agg rfl (fun i c d hc hd => ?_)
 match i with
 | 0 => simp at hc hd; subst hc; subst hd; exact frz_p _
 | 1 => simp at hc hd; subst hc; subst hd; exact frz_nil 6
 | 2 => simp at hc hd; subst hc; subst hd; exact frz_nil 5
 | 3 => simp at hc hd; subst hc; subst hd; exact frz_nil 1
 | 4 => simp at hc hd; subst hc; subst hd; exact frz_nil 1
 | i + 5 => simp at hc
theorem frz_psS {h : Heap} {b : Nat} (l : List PD) : frzV h b (.agg (l.map .p)) (.agg (l.map .p)) := .agg rfl (fun i c d hc hd => by rw [hc] at hd; injection hd with hd; subst hd; obtain ⟨x, _, rfl⟩ := List.mem_map.1 (List.mem_of_getElem? hc); exact .inl ⟨rfl, rfl⟩)
theorem sendBad_ok (C5 : List Cell) (e : Int) (he : e ≠ 0) (hlen : C5.length = 5) (h : Heap) (b W : Nat) (hW : W < b) (hw : h W = some ⟨0, C5 ++ [.p (.v (.int .i64 e))]⟩) :
  ACalls Tryz.prog 60 [.one (.ptr W 0 0)] h b 0 (fun r h' => r = .tup [SgV zSg, IntV e] ∧ h' = h) := by
 refine ACalls.enter Tryz.func60 rfl (by simp [Tryz.ntmps60]) (fun ι w hn H => ?_)
 have c' : (e = 0) = False := eq_false he
 have hWb : ¬ W = b := by omega
 match C5, hlen with
 | [a0, a1, a2, a3, a4], _ =>
   have hw' : h W = some ⟨0, [a0, a1, a2, a3, a4, .p (.v (.int .i64 e))]⟩ := hw
   refine Rk ?_
   refine AWP.seq ?_
   refine Rkf (jn3 @hw' @hWb @c') ?_
   refine Bt ?_
   refine AWP.seqRegD [] [] [b] mixed (by kernel_rfl) (by kernel_rfl) (fun K hK => .inl ?_) (by kernel_rfl); simp -implicitDefEqProofs only [go_sem, ↓reduceIte, Nat.reduceEqDiff, Nat.reduceAdd, Nat.reduceLT, Nat.reduceLeDiff, reduceCtorEq, Int.toNat_natCast, hw', hWb]
   refine ⟨?_, ?_⟩
   ·exact sub_ers _ _
   refine hK _ _ _ ?_; clear hK K
   refine AWP.ret ?_
   refine Ev ?_
   exact Ends.pure hn H Ou (r0 := .tup [.agg [.p (.v (.int .u64 0)), .p (.v (.slice none 0 0)), .p (.v (.slice none 0 0)), .p (.v (.slice none 0 0)), .p (.v (.slice none 0 0))], IntV e]) (by rw [show Tryz.f60.results.toList = [.cell 2 63, .tmp 3] from rfl]; exact Er) (frz_tup2 frz_sg0 (.v _)) ⟨rfl, rfl⟩
theorem sendOk_ok (s : Sg) (h : Heap) (b W B N D : Nat) (hW : W < b) (hBb : B < b) (hN : N < b) (hD : D < b) (hw : SW h W B N D s 0) :
  ACalls Tryz.prog 60 [.one (.ptr W 0 0)] h b 0 (fun r h' => r = .tup [SgV s, IntV 0] ∧ ∀ id, id < b → id ≠ B → id ≠ N → id ≠ D → h' id = h id) := by
 refine ACalls.enter Tryz.func60 rfl (by simp [Tryz.ntmps60]) (fun ι w hn H => ?_)
 have hWb : ¬ W = b := by omega
 have hlow := H.lowCells
 obtain ⟨ev, ec, nv, nc, dv, dc, w1, w2, w3, w4⟩ := hw.w
 have d4 := hw.d4; have d5 := hw.d5; have d6 := hw.d6
 obtain ⟨T1, a1, a2, a3⟩ := w2
 obtain ⟨T2, b1, b2, b3⟩ := w3
 obtain ⟨T3, c1, c2, c3⟩ := w4
 have hBne : ¬ B = b := by omega
 have hNne : ¬ N = b := by omega
 have hDne : ¬ D = b := by omega
 refine Rk ?_
 refine AWP.seq ?_
 refine Rkf (jn2 @w1 @hWb) ?_
 refine Bs ?_
 refine AWP.seqReg (by kernel_rfl) (fun E K hE hK => ?_); simp -implicitDefEqProofs only [go_sem, ↓reduceIte, Nat.reduceEqDiff, Nat.reduceAdd, Nat.reduceLT, Nat.reduceLeDiff, reduceCtorEq, Int.toNat_natCast, w1, hWb, a1, b1, c1, hBne, hNne, hDne, rowB]
 refine hK _ _ _ ?_; clear hE hK K E
 refine AWP.frzAt b 2 (gb := ⟨0, [.p (.v (.int .u64 s.gen)), .p (.sl 6 (s.t.map encF)), .win B ev 0 s.ed.length ec, .win N nv 0 s.names.length nc, .win D dv 0 s.dirs.length dc]⟩) (upd_same _ _ _) rfl (r := ⟨T1, (upd_ne _ _ _ _ hBne).trans a1, a2, a3⟩) (okEs_ed s.ed) (by rw [List.length_map]) (fun e => hBne e.symm) ?_
 refine AWP.frzAt b 3 (gb := ⟨0, [.p (.v (.int .u64 s.gen)), .p (.sl 6 (s.t.map encF)), .p (.sl 5 (s.ed.map encEd)), .win N nv 0 s.names.length nc, .win D dv 0 s.dirs.length dc]⟩) (upd_same _ _ _) rfl (r := ⟨T2, (upd_ne _ _ _ _ hNne).trans ((delH_ne _ _ _ (fun e => d4 e.symm)).trans ((upd_ne _ _ _ _ hNne).trans b1)), b2, b3⟩) (okEs_str s.names) (by rw [List.length_map]) (fun e => hNne e.symm) ?_
 refine AWP.frzAt b 4 (gb := ⟨0, [.p (.v (.int .u64 s.gen)), .p (.sl 6 (s.t.map encF)), .p (.sl 5 (s.ed.map encEd)), .p (.sl 1 (s.names.map encS)), .win D dv 0 s.dirs.length dc]⟩) (upd_same _ _ _) rfl (r := ⟨T3, (upd_ne _ _ _ _ hDne).trans ((delH_ne _ _ _ (fun e => d6 e.symm)).trans ((upd_ne _ _ _ _ hDne).trans ((delH_ne _ _ _ (fun e => d5 e.symm)).trans ((upd_ne _ _ _ _ hDne).trans c1)))), c2, c3⟩) (okEs_str s.dirs) (by rw [List.length_map]) (fun e => hDne e.symm) ?_
 refine Am.AWP.genT (fun st => st.h b = some ⟨0, (encSg s).map .p⟩ ∧ st.t 2 = .one (.ptr b 0 0) ∧ st.t 3 = IntV 0 ∧ (∀ id, id < b → id ≠ B → id ≠ N → id ≠ D → st.h id = h id) ∧ ∀ id, id < b → (id = B ∨ id = N ∨ id = D) → st.h id = none) ⟨upd_same _ _ _, by exact Er, by exact Er, fun id hid n1 n2 n3 => ?_, fun id hid hor => ?_⟩ ?_
 ·have q : ¬ id = b := Nat.ne_of_lt hid
  exact (upd_ne _ _ _ _ q).trans ((delH_ne _ _ _ n3).trans ((upd_ne _ _ _ _ q).trans ((delH_ne _ _ _ n2).trans ((upd_ne _ _ _ _ q).trans ((delH_ne _ _ _ n1).trans (upd_ne _ _ _ _ q))))))
 ·have q : ¬ id = b := Nat.ne_of_lt hid
  have dn : ∀ (hh : Heap) (x y : Nat), hh x = none → delH hh y x = none := fun hh x y e => by
   by_cases q : x = y
   ·subst q; exact delH_same _ _
   ·exact (delH_ne _ _ _ q).trans e
  rcases hor with rfl | rfl | rfl
  ·exact (upd_ne _ _ _ _ q).trans (dn _ _ _ ((upd_ne _ _ _ _ q).trans (dn _ _ _ ((upd_ne _ _ _ _ q).trans (delH_same _ _)))))
  ·exact (upd_ne _ _ _ _ q).trans (dn _ _ _ ((upd_ne _ _ _ _ q).trans (delH_same _ _)))
  ·exact (upd_ne _ _ _ _ q).trans (delH_same _ _)
 rintro ⟨t, hh, n⟩ ⟨hM, e2, e3, ho, hz⟩
 simp only at hM e2 e3 ho hz
 refine AWP.ret ?_
 refine Ends.low (r0 := .tup [SgV s, IntV 0]) (by rw [show Tryz.f60.results.toList = [.cell 2 63, .tmp 3] from rfl]; exact Erf (jn3 @e2 @e3 @hM)) (frz_tup2 (frz_psS _) (.v _)) (fun id hid blk eb c hc => ?_) ⟨rfl, fun id hid n1 n2 n3 => by unfold lowH; rw [if_pos hid]; exact ho id hid n1 n2 n3⟩
 by_cases q : id = B ∨ id = N ∨ id = D
 ·have eb' : hh id = some blk := eb
  rw [hz id hid q] at eb'; cases eb'
 ·have eb' : hh id = some blk := eb
  rw [ho id hid (fun e => q (.inl e)) (fun e => q (.inr (.inl e))) (fun e => q (.inr (.inr e)))] at eb'
  exact hlow id blk eb' c hc
theorem frz_ed0 {h : Heap} {b : Nat} (p : S) (g : Bool) (r : Nat) (f : S) : frzV h b (.agg [.p (.v (.string (mkS p))), .p (.v (.bool g)), .p (.v (.float .f64 r)), .p (.v (.string (mkS f))), .p (.v (.slice none 0 0))]) (EdV ⟨p, g, r, f, []⟩) := by
 refine .agg rfl (fun i c d hc hd => ?_)
 match i with
 | 0 | 1 | 2 | 3 => simp at hc hd; subst hc; subst hd; exact frz_p _
 | 4 => simp at hc hd; subst hc; subst hd; exact frz_nil 1
 | i + 5 => simp at hc
def whatT (t : List Fl) (p : S) : Ed := match fileT t p with
 | some f => ⟨p, false, f.rank, p, []⟩
 | none => goneE p
theorem swhat_ok (s : Sg) (e : Int) (p : S) (ht : s.t.length ≤ 1000000) (hr : Ris nmE s.ed) (hl : s.ed.length ≤ 1000000) (hdl : ∀ x ∈ s.ed, x.data.length ≤ 1000000) (hc : ∀ x ∈ s.ed, chkN x.name = 0) (hp : okG p) (h : Heap) (b W B N D : Nat) (hW : W < b) (hBb : B < b) (hw : SW h W B N D s e) :
  ACalls Tryz.prog 59 [.one (.ptr W 0 0), StrV p] h b 0 (fun r h' => r = EdV (whatS s p) ∧ h' = h) := by
 refine ACalls.enter Tryz.func59 rfl (by simp [Tryz.ntmps59]) (fun ι w hn H => ?_)
 have hWb : ¬ W = b := by omega
 have hBb1 : ¬ B = b := by omega
 have hWb1 : ¬ W = b + 1 := by omega
 obtain ⟨ev, ec, nv, nc, dv, dc, w1, w2, w3, w4⟩ := hw.w
 have fin : ∀ (tt : Nat → AV) (hh : Heap) (n : Nat) (r0 : AV), (∀ id, id < b → hh id = h id) → tt 4 = .one (.ptr b 0 0) → hh b = some ⟨0, match r0 with | .agg cs => cs | _ => []⟩ → (∃ cs, r0 = .agg cs ∧ cs.length = 5) → frzV hh b r0 (EdV (whatS s p)) → Am.Ends Tryz.prog ⟨Tryz.f59.ntmps, b, ι, h, w, x0⟩ Tryz.f59 0 (fun r h' => r = EdV (whatS s p) ∧ h' = h) ⟨tt, hh, n⟩ := by
  rintro tt hh n _ ho e4 hb ⟨cs, rfl, hlen⟩ hf
  match cs, hlen with
  | [a0, a1, a2, a3, a4], _ =>
    simp only at hb
    exact Ends.pure hn H ho (r0 := .agg [a0, a1, a2, a3, a4]) (by rw [show Tryz.f59.results.toList = [.cell 4 67] from rfl]; exact Erf (jn2 @e4 @hb)) hf ⟨rfl, rfl⟩
 refine Rk ?_
 refine AWP.seq ?_
 refine Rgf (jn2 @w1 @hWb) (fun E K hE hK => ?_)
 refine Us (eFindO_ok s.ed p hr hl hc hp (w2.ne hBb1) _) body_111 ?_
 refine hK _ _ _ ?_; clear hE hK K E
 cases hg : getK nmE p s.ed with
 | some x =>
   obtain ⟨hk, hk2⟩ := atK hr hg
   obtain ⟨T, t1, t2, t3⟩ := w2
   have hxm := (getK_mem hg).1
   have hlm : (s.ed.map encEd).length = s.ed.length := List.length_map _
   have hcl2 : ((s.ed.map encEd).flatten.map Cell.p ++ T).length = s.ed.length * 5 + T.length := by rw [List.length_append, List.length_map, okEs_len (okEs_ed s.ed), hlm]
   have hpart := row_part T (okEs_ed s.ed) (i := posK nmE p s.ed) (e := encEd x) (by rw [List.getElem?_map, List.getElem?_eq_getElem hk, hk2]; rfl)
   have t1' : h B = some ⟨ev, (s.ed.map encEd).flatten.map Cell.p ++ T⟩ := t1
   generalize hL : (s.ed.map encEd).flatten.map Cell.p ++ T = L at t1' hpart hcl2
   have hle : posK nmE p s.ed * 5 + 5 ≤ L.length := by omega
   have hki : ((posK nmE p s.ed : Nat) : Int) < s.ed.length := by omega
   generalize posK nmE p s.ed = k at hk hk2 hpart hle hki
   refine Rkf @hg ?_
   refine Bt ?_
   refine Rgf (jn7 @w1 @hWb @hWb1 @t1' @hBb1 @hki @hpart) (fun E K hE hK => ?_)
   repeat (refine ⟨by omega, ?_⟩)
   refine hK _ _ _ ?_; clear hE hK K E
   refine Rg (fun E K hE hK => ?_)
   refine CallR.use ((clone_oc_ok (x.data.map encO) (okEs_oct x.data) _ _ (by rw [List.length_map]; have := hdl x hxm; omega)).rowFrz (okEs_oct x.data)) body_83 ?_
   rintro _ _ ⟨rfl, rfl⟩
   refine Ev ?_
   refine hK _ _ _ ?_; clear hE hK K E
   refine Rk ?_
   refine AWP.ret ?_
   refine Ev ?_
   refine fin _ _ _ (EdV x) Ou (by exact Er) (by exact Er) ⟨_, rfl, rfl⟩ ?_
   rw [show whatS s p = x by unfold whatS; rw [hg]]
   exact frz_psS _
 | none =>
   have hws : whatS s p = whatT s.t p := by unfold whatS; rw [hg]; rfl
   refine Rkf @hg ?_
   refine Bs ?_
   have cg : ∀ h b, ACalls Tryz.prog 112 [FlsV s.t, StrV p] h b 0 (fun r h' => r = .tup [.agg [.p (.v (.string (mkS (getR s.t p).1.name))), .p (.v (.float .f64 (getR s.t p).1.rank)), .p (.v (.int .u32 (getR s.t p).1.sum)), .p (.v (.int .i64 (getR s.t p).1.blk)), .p (.v (.int .i64 (getR s.t p).1.frm)), .p (.v (.int .i64 (getR s.t p).1.len))], IntV (getR s.t p).2] ∧ h' = h) := Get_ok s.t p ht
   refine Rgf (jn2 @w1 @hWb) (fun E K hE hK => ?_)
   refine Us (cg _ _) body_112 ?_
   refine hK _ _ _ ?_; clear hE hK K E
   refine AWP.seq ?_
   cases hf : fileT s.t p with
   | none =>
     have e0 : ((getR s.t p).2 = 0) = False := eq_false (fileT_none.1 hf)
     refine Rkf @e0 ?_
     refine Bt ?_
     refine Rk ?_
     refine AWP.ret ?_
     refine Ev ?_
     refine fin _ _ _ (.agg [.p (.v (.string (mkS p))), .p (.v (.bool true)), .p (.v (.float .f64 0)), .p (.v (.string (mkS []))), .p (.v (.slice none 0 0))]) Ou (by exact Er) (by exact Er) ⟨_, rfl, rfl⟩ ?_
     rw [hws, show whatT s.t p = goneE p by unfold whatT; rw [hf]]
     exact frz_ed0 _ _ _ _
   | some f =>
     have e0 : ((getR s.t p).2 = 0) = True := eq_true (by rw [fileT_some hf])
     have e1 : (getR s.t p).1 = f := by rw [fileT_some hf]
     rw [e1]
     refine Rkf @e0 ?_
     refine Bs ?_
     refine Rk ?_
     refine AWP.ret ?_
     refine Ev ?_
     refine fin _ _ _ (.agg [.p (.v (.string (mkS p))), .p (.v (.bool false)), .p (.v (.float .f64 f.rank)), .p (.v (.string (mkS p))), .p (.v (.slice none 0 0))]) Ou (by exact Er) (by exact Er) ⟨_, rfl, rfl⟩ ?_
     rw [hws, show whatT s.t p = ⟨p, false, f.rank, p, []⟩ by unfold whatT; rw [hf]]
     exact frz_ed0 _ _ _ _
theorem ed_set (l : List Ed) (T : List Cell) {i : Nat} (hi : i < l.length) (x : Ed) : List.take (i * 5) ((l.map encEd).flatten.map Cell.p ++ T) ++ .p (.v (.string (mkS x.name))) :: .p (.v (.bool x.gone)) :: .p (.v (.float .f64 x.rank)) :: .p (.v (.string (mkS x.of))) :: .p (.sl 1 (x.data.map encO)) :: List.drop (i * 5 + 5) ((l.map encEd).flatten.map Cell.p ++ T) = ((l.take i ++ (x :: l.drop (i + 1))).map encEd).flatten.map Cell.p ++ T := by
 have h := spl_row (es := l.map encEd) (fs := [encEd x]) (i := i) T (okEs_ed l) (okEs_ed [x]) (by simp; omega)
 simpa [spl, encEd] using h
theorem sedit_ok (s : Sg) (e : Int) (x : Ed) (hr : Ris nmE s.ed) (hl : s.ed.length ≤ 1000000) (hc : ∀ y ∈ s.ed, chkN y.name = 0) (hp : okG x.name) (h : Heap) (b W B N D : Nat) (hW : W < b) (hBb : B < b) (hN : N < b) (hD : D < b) (hw : SW h W B N D s e) :
  ACalls Tryz.prog 82 [.one (.ptr W 0 0), EdV x] h b 0 (SR h b W B N D (editS s e x).1 (editS s e x).2 (.tup [])) := by
 refine ACalls.enter Tryz.func82 rfl (by simp [Tryz.ntmps82]) (fun ι w hn H => ?_)
 have hWb : ¬ W = b := by omega
 have hBb1 : ¬ B = b := by omega
 have nbW : ¬ b = W := by omega
 have nbB : ¬ b = B := by omega
 obtain ⟨d1, d2, d3, d4, d5, d6⟩ : (¬ W = B) ∧ (¬ W = N) ∧ (¬ W = D) ∧ (¬ B = N) ∧ (¬ B = D) ∧ (¬ N = D) := ⟨hw.d1, hw.d2, hw.d3, hw.d4, hw.d5, hw.d6⟩
 have d1' : ¬ B = W := fun q => d1 q.symm
 have d2' : ¬ N = W := fun q => d2 q.symm
 have d3' : ¬ D = W := fun q => d3 q.symm
 have d4' : ¬ N = B := fun q => d4 q.symm
 have d5' : ¬ D = B := fun q => d5 q.symm
 have hw0 := hw
 obtain ⟨ev, ec, nv, nc, dv, dc, w1, w2, w3, w4⟩ := hw.w
 have nNb : ¬ N = b := by omega
 have nDb : ¬ D = b := by omega
 have hlm : (s.ed.map encEd).length = s.ed.length := List.length_map _
 have hki := posK_le (nm := nmE) x.name s.ed
 have fin : ∀ (tt : Nat → AV) (hh : Heap) (n : Nat) (s' : Sg) (e' : Int), (s', e') = editS s e x → SW hh W B N D s' e' → (∀ id, id < b → id ≠ W → id ≠ B → id ≠ N → id ≠ D → hh id = h id) → Am.Ends Tryz.prog ⟨Tryz.f82.ntmps, b, ι, h, w, x0⟩ Tryz.f82 0 (SR h b W B N D (editS s e x).1 (editS s e x).2 (.tup [])) ⟨tt, hh, n⟩ := by
  intro tt hh n s' e' q1 q2 q3
  rw [← q1]
  exact Ends.SR rfl H hW hBb hN hD q2 q3 (by rw [show Tryz.f82.results.toList = [] from rfl]; rfl) (frz_tup0 _ _)
 obtain ⟨T, t1, t2, t3⟩ := w2
 have w2' : RowAt h B ev ec 5 (s.ed.map encEd) := ⟨T, t1, t2, t3⟩
 refine Rk ?_
 refine AWP.seqRegD [] [] [] mixed (by kernel_rfl) (by kernel_rfl) (fun K hK => .inl ?_) (by kernel_rfl); simp -implicitDefEqProofs only [go_sem, ↓reduceIte, Nat.reduceEqDiff, Nat.reduceAdd, Nat.reduceLT, Nat.reduceLeDiff, reduceCtorEq, Int.toNat_natCast, w1, hWb, nbW]
 refine CallD.use (eFindO_ok s.ed x.name hr hl hc hp (w2'.ne hBb1) _) body_111 ?_
 rintro _ _ ⟨rfl, rfl⟩
 refine ⟨Sub.refl _, ?_⟩
 refine Ev ?_
 refine hK _ _ _ ?_; clear hK K
 refine AWP.block ?_
 refine Rkf (jn2 @w1 @hWb) ?_
 by_cases c : e = 0
 case neg =>
  have c' : (e = 0) = False := eq_false c
  refine Evf @c' ?_
  refine Bt ?_
  refine AWP.skip ?_
  exact fin _ _ _ s e (by unfold editS; rw [if_pos c]) (hw0.of (upd_ne _ _ _ _ hWb) (upd_ne _ _ _ _ hBb1) (upd_ne _ _ _ _ nNb) (upd_ne _ _ _ _ nDb)) (fun id hid _ _ _ _ => upd_ne _ _ _ _ (Nat.ne_of_lt hid))
 subst c
 refine Ev ?_
 refine Bf ?_
 cases hg : getK nmE x.name s.ed with
 | some y =>
   obtain ⟨hk, hk2⟩ := atK hr hg
   have hset := ed_set s.ed T hk x
   rw [takeK hr, dropK1 hr hg] at hset
   have hcl2 : ((s.ed.map encEd).flatten.map Cell.p ++ T).length = s.ed.length * 5 + T.length := by rw [List.length_append, List.length_map, okEs_len (okEs_ed s.ed), hlm]
   have t1' : h B = some ⟨ev, (s.ed.map encEd).flatten.map Cell.p ++ T⟩ := t1
   generalize hL : (s.ed.map encEd).flatten.map Cell.p ++ T = L at t1' hset hcl2
   have hle : posK nmE x.name s.ed * 5 + 5 ≤ L.length := by omega
   have hki2 : ((posK nmE x.name s.ed : Nat) : Int) < s.ed.length := by omega
   have hlen2 : (setK nmE x.name (some x) s.ed).length = s.ed.length := by
    have := congrArg List.length (splitK (nm := nmE) (p := x.name) hr)
    rw [hg] at this
    rw [this]; unfold setK; rw [List.length_append, List.length_append, List.length_append, List.length_append]; rfl
   refine Rkf @hg ?_
   refine Bt ?_
   generalize posK nmE x.name s.ed = k at hk hk2 hset hle hki2
   refine AWP.rgD [] [] [B] mixed (by kernel_rfl) (by kernel_rfl) (fun K hK => ?_) (by kernel_rfl); simp -implicitDefEqProofs only [go_sem, ↓reduceIte, Nat.reduceEqDiff, Nat.reduceAdd, Nat.reduceLT, Nat.reduceLeDiff, reduceCtorEq, Int.toNat_natCast, w1, hWb, nbW, t1', hBb1, nbB, hki2, d1, d1']
   repeat (refine ⟨by omega, ?_⟩)
   refine ⟨sub_at _ (by exact Erf (jn2 @t1' @hBb1)), ?_⟩
   refine hK _ _ _ ?_; clear hK K
   refine fin _ _ _ { s with ed := setK nmE x.name (some x) s.ed } 0 (by unfold editS; rw [if_neg (by simp), if_pos (.inl (by rw [hg]; rfl))]) ⟨⟨ev, ec, nv, nc, dv, dc, (upd_ne _ _ _ _ d1).trans ((upd_ne _ _ _ _ hWb).trans (w1.trans (by show _ = some (⟨0, [_, _, .win B ev 0 (setK nmE x.name (some x) s.ed).length ec, _, _, _]⟩ : Blk); rw [hlen2]))), ⟨T, ?_, by rw [List.length_map, hlen2, ← hlm]; exact t2, t3⟩, w3.ofE ((upd_ne _ _ _ _ d4').trans (upd_ne _ _ _ _ nNb)), w4.ofE ((upd_ne _ _ _ _ d5').trans (upd_ne _ _ _ _ nDb))⟩, d1, d2, d3, d4, d5, d6⟩ (fun id hid n1 n2 n3 n4 => by
    have q : ¬ id = b := Nat.ne_of_lt hid
    exact (upd_ne _ _ _ _ n2).trans (upd_ne _ _ _ _ q))
   ·refine (upd_same _ _ _).trans ?_
    rw [hset]; rfl
 | none =>
   refine Rkf @hg ?_
   refine Bf ?_
   by_cases cl : (s.ed.length : Int) = 256
   ·have cl' : ((s.ed.length : Int) = 256) = True := eq_true cl
    refine AWP.seqReg (by kernel_rfl) (fun E K hE hK => ?_); simp -implicitDefEqProofs only [go_sem, ↓reduceIte, Nat.reduceEqDiff, Nat.reduceAdd, Nat.reduceLT, Nat.reduceLeDiff, reduceCtorEq, Int.toNat_natCast, w1, hWb, t1, hBb1, rowB, cl', decide_true]; refine hK _ _ _ ?_; clear hE hK K E
    refine Bt ?_
    refine Raf (jn2 @w1 @hWb) (fun E K hE hK => ?_)
    refine hK _ _ _ ?_; clear hE hK K E
    exact fin _ _ _ s 6 (by unfold editS; rw [if_neg (by simp), if_neg (by rw [hg]; simp; omega)]) ⟨⟨ev, ec, nv, nc, dv, dc, upd_same _ _ _, (w2'.ne hBb1).ne d1', (w3.ne nNb).ne d2', (w4.ne nDb).ne d3'⟩, d1, d2, d3, d4, d5, d6⟩ (fun id hid n1 _ _ _ => (upd_ne _ _ _ _ n1).trans (upd_ne _ _ _ _ (Nat.ne_of_lt hid)))
   have cl' : ((s.ed.length : Int) = 256) = False := eq_false cl
   refine AWP.seqReg (by kernel_rfl) (fun E K hE hK => ?_); simp -implicitDefEqProofs only [go_sem, ↓reduceIte, Nat.reduceEqDiff, Nat.reduceAdd, Nat.reduceLT, Nat.reduceLeDiff, reduceCtorEq, Int.toNat_natCast, w1, hWb, t1, hBb1, rowB, cl', decide_false]; refine hK _ _ _ ?_; clear hE hK K E
   refine Bf ?_
   obtain ⟨hh, hhe⟩ : ∃ hh, upd h b ⟨0, [.p (.v (.string (mkS x.name))), .p (.v (.bool x.gone)), .p (.v (.float .f64 x.rank)), .p (.v (.string (mkS x.of))), .p (.sl 1 (x.data.map encO))]⟩ = hh := ⟨_, rfl⟩
   have k1 : hh W = some ⟨0, swC s 0 B ev ec N nv nc D dv dc⟩ := by rw [← hhe]; exact (upd_ne _ _ _ _ hWb).trans w1
   have k2 : hh B = some (rowB ev (s.ed.map encEd) T) := by rw [← hhe]; exact (upd_ne _ _ _ _ hBb1).trans t1
   have k3 : RowAt hh N nv nc 1 (s.names.map encS) := by rw [← hhe]; exact w3.ne nNb
   have k4 : RowAt hh D dv dc 1 (s.dirs.map encS) := by rw [← hhe]; exact w4.ne nDb
   have k5 : hh b = some ⟨0, [.p (.v (.string (mkS x.name))), .p (.v (.bool x.gone)), .p (.v (.float .f64 x.rank)), .p (.v (.string (mkS x.of))), .p (.sl 1 (x.data.map encO))]⟩ := by rw [← hhe]; exact upd_same _ _ _
   have k6 : ∀ id, id < b → hh id = h id := fun id hid => by rw [← hhe]; exact upd_ne _ _ _ _ (Nat.ne_of_lt hid)
   rw [hhe]
   refine AWP.rgS [22] [] (ers (delH hh B) W) ((sub_ers _ _).trans (sub_delH _ _)) mixed (by kernel_rfl) (by kernel_rfl) (fun K hK => ?_) (by kernel_rfl); simp -implicitDefEqProofs only [go_sem, ↓reduceIte, Nat.reduceEqDiff, Nat.reduceAdd, Nat.reduceLT, Nat.reduceLeDiff, reduceCtorEq, Int.toNat_natCast, k1, k2, k5, rowB, nbW, nbB, hWb, hBb1, d1, d1', delH]
   have hsub := (sub_ers (delH hh B) W).trans (sub_delH hh B)
   refine ⟨hsub, ?_⟩
   refine CallD.use ((insert_ed_ok (s.ed.map encEd) [encEd x] (okEs_ed s.ed) (okEs_ed [x]) hh _ B ev ec (posK nmE x.name s.ed) T (show B < b + 1 by omega) k2 t3 (by omega) (by omega) (by rw [hlm]; exact hki) (by rw [hlm]; omega) (by simp)).arg_eq (by rw [hlm])) body_135 ?_
   rintro _ _ ⟨ver', cap', T', z1, z2, z3, rfl, rfl⟩
   have hdr : (s.ed.map encEd).take (posK nmE x.name s.ed) ++ ([encEd x] ++ (s.ed.map encEd).drop (posK nmE x.name s.ed)) = (setK nmE x.name (some x) s.ed).map encEd := by
    rw [← List.map_take, ← List.map_drop, takeK hr, dropK hr, hg]
    show _ = (lowK nmE x.name s.ed ++ (([x] : List Ed) ++ higK nmE x.name s.ed)).map encEd
    rw [List.map_append, List.map_append]; rfl
   rw [hdr, List.length_map] at z1 z2
   rw [hdr, List.length_map]
   have hs2 : Am.Sub (ers (delH hh B) W) (upd hh B (rowB ver' ((setK nmE x.name (some x) s.ed).map encEd) T')) := hsub.updN (by (first | (simp -implicitDefEqProofs only [go_sem, ↓reduceIte, Nat.reduceEqDiff, Nat.reduceAdd, Nat.reduceLT, Nat.reduceLeDiff, reduceCtorEq, Int.toNat_natCast, d1, d1', delH]; first | done | rfl) | rfl))
   refine ⟨hs2, ?_⟩
   have hdG : delH hh B W = some ⟨0, swC s 0 B ev ec N nv nc D dv dc⟩ := by unfold delH; rw [if_neg d1]; exact k1
   simp -implicitDefEqProofs only [go_sem, ↓reduceIte, Nat.reduceEqDiff, Nat.reduceAdd, Nat.reduceLT, Nat.reduceLeDiff, reduceCtorEq, Int.toNat_natCast, k1, d1, d1', rowB, hdG]
   refine ⟨hs2.upd (fun bb eb => ?_), ?_⟩
   ·rw [ers_lit, if_pos rfl, hdG] at eb
    injection eb with eb
    subst eb; exact ⟨rfl, rfl⟩
   refine hK _ _ _ ?_; clear hK K
   refine fin _ _ _ { s with ed := setK nmE x.name (some x) s.ed } 0 (by unfold editS; rw [if_neg (by simp), if_pos (.inr (by omega))]) ⟨⟨ver', cap', nv, nc, dv, dc, upd_same _ _ _, ⟨T', (upd_ne _ _ _ _ d1').trans (upd_same _ _ _), by rw [List.length_map]; show (setK nmE x.name (some x) s.ed).length * 5 + _ = _; omega, z3⟩, (k3.ne d4').ne d2', (k4.ne d5').ne d3'⟩, d1, d2, d3, d4, d5, d6⟩ (fun id hid n1 n2 _ _ => (upd_ne _ _ _ _ n1).trans ((upd_ne _ _ _ _ n2).trans (k6 id hid)))
theorem StOK.tlen {s : Sg} (o : StOK keyR s) : s.t.length ≤ 256 := (checkT_zero.1 o.t).1
theorem StOK.sz {s : Sg} (o : StOK keyR s) : SzS s := ⟨by have := o.tlen; omega, by have := o.len; omega, by have := o.nlen; omega, by have := o.dlen; omega, fun x hx => by have := mayE_data (o.may x hx); omega⟩
theorem eFind0_ok (p : S) (h : Heap) (b : Nat) :
  ACalls Tryz.prog 111 [EdsV [], StrV p, .one (.clo (.func 88) [] [])] h b 0 (fun r h' => r = .tup [IntV (0 : Nat), BoolV false] ∧ h' = h) :=
 bsed_ok [] (mkS p) 88 (fun k => cmpF k.name p) 0 (by simp) body_88 (fun x hx h b => by cases hx) (Nat.le_refl _) (fun j hj hk => by simp at hj) (fun j hj hk => by simp at hj) _ (by simp) h b
theorem seditBad_ok (e : Int) (x : Ed) (he : e ≠ 0) (h : Heap) (b W : Nat) (hW : W < b) (hw : h W = some ⟨0, seC e⟩) :
  ACalls Tryz.prog 82 [.one (.ptr W 0 0), EdV x] h b 0 (fun r h' => r = .tup [] ∧ h' = h) := by
 refine ACalls.enter Tryz.func82 rfl (by simp [Tryz.ntmps82]) (fun ι w hn H => ?_)
 have hWb : ¬ W = b := by omega
 have nbW : ¬ b = W := by omega
 have c' : (e = 0) = False := eq_false he
 refine Rk ?_
 refine AWP.seqRegD [] [] [] mixed (by kernel_rfl) (by kernel_rfl) (fun K hK => .inl ?_) (by kernel_rfl); simp -implicitDefEqProofs only [go_sem, ↓reduceIte, Nat.reduceEqDiff, Nat.reduceAdd, Nat.reduceLT, Nat.reduceLeDiff, reduceCtorEq, Int.toNat_natCast, hw, hWb, nbW]
 refine CallD.use (eFind0_ok x.name _ _) body_111 ?_
 rintro _ _ ⟨rfl, rfl⟩
 refine ⟨Sub.refl _, ?_⟩
 refine Ev ?_
 refine hK _ _ _ ?_; clear hK K
 refine AWP.block ?_
 refine Rkf (jn3 @hw @hWb @c') ?_
 refine Bt ?_
 refine AWP.skip ?_
 exact Ends.pure hn H Ou (r0 := .tup []) (by rw [show Tryz.f82.results.toList = [] from rfl]; rfl) (frz_tup0 _ _) ⟨rfl, rfl⟩
theorem swhat2_ok {s : Sg} {e : Int} {p : S} (o : StOK keyR s) (hp : chkN p = 0) {h : Heap} {W B N D : Nat} (hw : SW h W B N D s e) (b : Nat) (hW : W < b) (hBb : B < b) :
  ACalls Tryz.prog 59 [.one (.ptr W 0 0), StrV p] h b 0 (fun r h' => r = EdV (whatS s p) ∧ h' = h) :=
 swhat_ok s e p o.sz.t o.ris o.sz.ed o.sz.data (fun x hx => mayE_chk (o.may x hx)) (.inr hp) h b W B N D hW hBb hw
theorem sedit2_ok {s : Sg} {x : Ed} (e : Int) (o : StOK keyR s) (hp : chkN x.name = 0) {h : Heap} {W B N D : Nat} (hw : SW h W B N D s e) (b : Nat) (hW : W < b) (hBb : B < b) (hN : N < b) (hD : D < b) :
  ACalls Tryz.prog 82 [.one (.ptr W 0 0), EdV x] h b 0 (SR h b W B N D (editS s e x).1 (editS s e x).2 (.tup [])) :=
 sedit_ok s e x o.ris o.sz.ed (fun x hx => mayE_chk (o.may x hx)) (.inr hp) h b W B N D hW hBb hN hD hw
theorem smove_ok {s : Sg} {p q : S} (o : StOK keyR s) (hp : chkN p = 0) (hq : chkN q = 0) {h : Heap} {W B N D : Nat} (hw : SW h W B N D s 0) (b : Nat) (hW : W < b) (hBb : B < b) (hN : N < b) (hD : D < b) :
  ACalls Tryz.prog 84 [.one (.ptr W 0 0), StrV p, StrV q] h b 0 (SR h b W B N D (moveS s p q).2.1 (moveS s p q).2.2 (IntV (moveS s p q).1)) := by
 refine ACalls.enter Tryz.func84 rfl (by simp [Tryz.ntmps84]) (fun ι w hn H => ?_)
 have nWb : ¬ W = b := by omega
 have nBb : ¬ B = b := by omega
 have nNb : ¬ N = b := by omega
 have nDb : ¬ D = b := by omega
 obtain ⟨x, hx⟩ : ∃ x, whatS s p = x := ⟨_, rfl⟩
 have hxm : mayE keyR s.t x = true := by rw [← hx]; exact mayE_what o hp
 have fin : ∀ (tt : Nat → AV) (hh : Heap) (n : Nat) (m : Sg) (e v : Int), tt 6 = IntV v → (v, m, e) = moveS s p q → SW hh W B N D m e → (∀ id, id < b → id ≠ W → id ≠ B → id ≠ N → id ≠ D → hh id = h id) → Am.Ends Tryz.prog ⟨Tryz.f84.ntmps, b, ι, h, w, x0⟩ Tryz.f84 0 (SR h b W B N D (moveS s p q).2.1 (moveS s p q).2.2 (IntV (moveS s p q).1)) ⟨tt, hh, n⟩ := by
  intro tt hh n m e v e6 q1 q2 q3
  rw [← q1]
  exact Ends.SR rfl H hW hBb hN hD q2 q3 (by rw [show Tryz.f84.results.toList = [.tmp 6] from rfl]; exact Ecf @e6) (.v _)
 have hsw : ∀ (c : List Cell), SW (upd h b ⟨0, c⟩) W B N D s 0 := fun c => hw.of (upd_ne _ _ _ _ nWb) (upd_ne _ _ _ _ nBb) (upd_ne _ _ _ _ nNb) (upd_ne _ _ _ _ nDb)
 have hout : ∀ (c : List Cell) (id : Nat), id < b → id ≠ W → id ≠ B → id ≠ N → id ≠ D → (upd h b ⟨0, c⟩) id = h id := fun c id hid _ _ _ _ => upd_ne _ _ _ _ (Nat.ne_of_lt hid)
 refine Rk ?_
 refine Rg (fun E K hE hK => ?_)
 refine Us (swhat2_ok o hp hw _ hW hBb) body_59 ?_
 refine Evf @hx ?_
 refine hK _ _ _ ?_; clear hE hK K E
 refine AWP.seq ?_
 refine AWP.block ?_
 cases hg : x.gone
 case true =>
  refine Rkf @hg ?_
  refine Bt ?_
  refine Rk ?_
  refine AWP.ret ?_
  refine Ev ?_
  exact fin _ _ _ s 0 4 (by exact Er) (by unfold moveS; rw [hx, if_pos hg]) (hsw _) (hout _)
 refine Rkf @hg ?_
 refine Bf ?_
 by_cases c : p = q
 ·have c' : (p = q) = True := eq_true c
  refine Rkf (jn2 @mkS_list @c') ?_
  refine Bt ?_
  refine Rk ?_
  refine AWP.ret ?_
  refine Ev ?_
  exact fin _ _ _ s 0 0 (by exact Er) (by unfold moveS; rw [hx, if_neg (by rw [hg]; simp), if_pos c]) (hsw _) (hout _)
 have c' : (p = q) = False := eq_false c
 obtain ⟨y, hy⟩ : ∃ y, whatS s q = y := ⟨_, rfl⟩
 refine Rkf (jn2 @mkS_list @c') ?_
 refine Bf ?_
 refine Rg (fun E K hE hK => ?_)
 refine Us (swhat2_ok o hq (hsw _) (b + 1) (show W < b + 1 by omega) (show B < b + 1 by omega)) body_59 ?_
 refine Evf @hy ?_
 refine hK _ _ _ ?_; clear hE hK K E
 cases hg2 : y.gone
 case false =>
  refine Evf @hg2 ?_
  refine Bt ?_
  refine Rk ?_
  refine AWP.ret ?_
  refine Ev ?_
  exact fin _ _ _ s 0 5 (by exact Er) (by unfold moveS; rw [hx, if_neg (by rw [hg]; simp), if_neg c, hy, if_pos hg2]) (hsw _) (hout _)
 refine Evf @hg2 ?_
 refine Bf ?_
 refine AWP.skip ?_
 refine Ev ?_
 have hxe : ({ x with name := q } : Ed) = ⟨q, false, x.rank, x.of, x.data⟩ := by rw [← hg]
 have hmv : moveS s p q = (0, editS (editS s 0 ⟨q, false, x.rank, x.of, x.data⟩).1 (editS s 0 ⟨q, false, x.rank, x.of, x.data⟩).2 (goneE p)) := by unfold moveS; rw [hx, hxe, if_neg (by rw [hg]; simp), if_neg c, hy, if_neg (by rw [hg2]; simp)]
 refine Rk ?_
 have hx1 : mayE keyR s.t ⟨q, false, x.rank, x.of, x.data⟩ = true := by rw [← hxe]; exact mayE_name hxm hq
 have o1 : StOK keyR (editS s 0 ⟨q, false, x.rank, x.of, x.data⟩).1 := o.edit hx1
 refine Rg (fun E K hE hK => ?_)
 refine CallR.use (sedit2_ok (x := ⟨q, false, x.rank, x.of, x.data⟩) 0 o hq (hsw _) (b + 1) (show W < b + 1 by omega) (show B < b + 1 by omega) (show N < b + 1 by omega) (show D < b + 1 by omega)) body_82 ?_
 rintro _ h2 ⟨rfl, hw2, ho2⟩
 refine Ev ?_
 refine hK _ _ _ ?_; clear hE hK K E
 refine Rg (fun E K hE hK => ?_)
 refine CallR.use ((sedit2_ok (x := goneE p) (editS s 0 ⟨q, false, x.rank, x.of, x.data⟩).2 o1 hp hw2 (b + 1) (show W < b + 1 by omega) (show B < b + 1 by omega) (show N < b + 1 by omega) (show D < b + 1 by omega)).argNil ⟨lessV.refl _, ⟨.inl rfl, .inl rfl, .inl rfl, .inl rfl, .nil 1, trivial⟩, trivial⟩) body_82 ?_
 rintro _ h3 ⟨rfl, hw3, ho3⟩
 refine Ev ?_
 refine hK _ _ _ ?_; clear hE hK K E
 refine Rk ?_
 refine AWP.ret ?_
 refine Ev ?_
 refine fin _ _ _ _ _ 0 (by exact Er) hmv.symm hw3 (fun id hid n1 n2 n3 n4 => ?_)
 have q1 : id < b + 1 := Nat.lt_succ_of_lt hid
 exact (ho3 id q1 n1 n2 n3 n4).trans ((ho2 id q1 n1 n2 n3 n4).trans (hout _ id hid n1 n2 n3 n4))
theorem sstartL_ok {s : Sg} {names : List S} (z : SzS s) (hnl : names.length ≤ 1000) (hs : startS keyR s names = 0) {h : Heap} {nb : Nat} (b : Nat) (hnb : nb < b) (hb : h nb = some (rowB 0 (names.map encS) [])) :
  ACalls Tryz.prog 57 [SgV s, .one (.win nb 0 0 names.length names.length)] h b 4 (fun r h' => r = .one (.ptr b 0 0) ∧ SW h' b (b + 1) (b + 2) (b + 3) s 0 ∧ ∀ id, id < b → id ≠ nb → h' id = h id) := by
 have hlm : (names.map encS).length = names.length := List.length_map _
 have vw := view_rowT (h := h) (D := fun i => decide (i = nb)) (id := nb) (ver := 0) (sz := 1) (m := names.length) (j := 0) (off := 0) (cap := names.length) (by simp) hb (okEs_str names) (by rw [hlm]; omega) rfl
 rw [List.drop_zero, ← hlm, List.take_length, hlm] at vw
 refine ((sstart_ok s names z hnl hs (delP h fun i => decide (i = nb)) b).seal _ (.cons (.same _) (.cons (.one vw) .nil))).mono fun r h' ⟨k1, k2, k3⟩ => ⟨k1, k2, fun id hid n => (k3 id hid).trans ?_⟩
 unfold delP
 rw [if_neg (by simp [n])]
theorem sstartBadL_ok {s : Sg} {names : List S} (z : SzS s) (hnl : names.length ≤ 1000) (hs : startS keyR s names ≠ 0) {h : Heap} {nb : Nat} (b : Nat) (hnb : nb < b) (hb : h nb = some (rowB 0 (names.map encS) [])) :
  ACalls Tryz.prog 57 [SgV s, .one (.win nb 0 0 names.length names.length)] h b 1 (fun r h' => r = .one (.ptr b 0 0) ∧ h' b = some ⟨0, seC (startS keyR s names)⟩ ∧ ∀ id, id < b → id ≠ nb → h' id = h id) := by
 have hlm : (names.map encS).length = names.length := List.length_map _
 have vw := view_rowT (h := h) (D := fun i => decide (i = nb)) (id := nb) (ver := 0) (sz := 1) (m := names.length) (j := 0) (off := 0) (cap := names.length) (by simp) hb (okEs_str names) (by rw [hlm]; omega) rfl
 rw [List.drop_zero, ← hlm, List.take_length, hlm] at vw
 refine ((sstartBad_ok s names z hnl hs (delP h fun i => decide (i = nb)) b).seal _ (.cons (.same _) (.cons (.one vw) .nil))).mono fun r h' ⟨k1, k2⟩ => ⟨k1, by rw [k2]; exact upd_same _ _ _, fun id hid n => by
  rw [k2, upd_ne _ _ _ _ (Nat.ne_of_lt hid)]
  unfold delP
  rw [if_neg (by simp [n])]⟩
def endC (h : Heap) (nb W : Nat) (m : Sg) (e : Int) : Prop := ACalls Tryz.prog 60 [.one (.ptr W 0 0)] h nb 0 (fun r h' => r = .tup [SgV m, IntV e] ∧ ∀ id, id < W → h' id = h id)
theorem endC_bad {C5 : List Cell} {e : Int} {h : Heap} {W : Nat} (nb : Nat) (he : e ≠ 0) (hl : C5.length = 5) (hW : W < nb) (hw : h W = some ⟨0, C5 ++ [.p (.v (.int .i64 e))]⟩) : endC h nb W zSg e :=
 (sendBad_ok C5 e he hl h nb W hW hw).mono fun r h' ⟨k1, k2⟩ => ⟨k1, fun id _ => by rw [k2]⟩
theorem endC_ok {s : Sg} {h : Heap} {W : Nat} (nb : Nat) (hW : W + 3 < nb) (hw : SW h W (W + 1) (W + 2) (W + 3) s 0) : endC h nb W s 0 :=
 (sendOk_ok s h nb W (W + 1) (W + 2) (W + 3) (by omega) (by omega) (by omega) (by omega) hw).mono fun r h' ⟨k1, k2⟩ => ⟨k1, fun id hid => k2 id (by omega) (by omega) (by omega) (by omega)⟩
theorem SW.err {h : Heap} {W B N D : Nat} {s : Sg} {e : Int} (hw : SW h W B N D s e) : ∃ C5, C5.length = 5 ∧ h W = some ⟨0, C5 ++ [.p (.v (.int .i64 e))]⟩ := by
 obtain ⟨ev, ec, nv, nc, dv, dc, w1, _⟩ := hw.w
 exact ⟨[_, _, _, _, _], rfl, w1⟩
theorem endC_any {s : Sg} {e : Int} {h : Heap} {W : Nat} (nb : Nat) (hW : W + 3 < nb) (hw : SW h W (W + 1) (W + 2) (W + 3) s e) : endC h nb W (endS (s, e)).1 (endS (s, e)).2 := by
 unfold endS
 by_cases c : e = 0
 ·subst c; rw [if_neg (by simp)]; exact endC_ok nb hW hw
 ·rw [if_pos c]
  obtain ⟨C5, h1, h2⟩ := hw.err
  exact endC_bad nb c h1 (by omega) h2
theorem subA2 {H : Heap} {x y vx : Nat} {cx c1 : List Cell} (hx : H x = some ⟨vx, cx⟩) (hne : ¬ x = y) : Am.Sub (ers (ers H x) y) (upd H x ⟨vx, c1⟩) := by
 have s := (sub_ers (ers H x) y).trans (sub_ers H x)
 exact s.at (x := ⟨vx, c1⟩) (by rw [ers_lit, if_neg hne, ers_lit, if_pos rfl, hx]; rfl)
theorem subB2 {H : Heap} {x y vx vy : Nat} {cx cy c1 c2 : List Cell} (hx : H x = some ⟨vx, cx⟩) (hy : H y = some ⟨vy, cy⟩) (hne : ¬ x = y) : Am.Sub (ers (ers H x) y) (upd (upd H x ⟨vx, c1⟩) y ⟨vy, c2⟩) :=
 (subA2 (c1 := c1) hx hne).at (x := ⟨vy, c2⟩) (by rw [ers_lit, if_pos rfl, ers_lit, if_neg (fun e => hne e.symm), hy]; rfl)
def zEd : Ed := ⟨[], false, 0, [], []⟩
def edC (x : Ed) (d : PD) : List Cell := [.p (.v (.string (mkS x.name))), .p (.v (.bool x.gone)), .p (.v (.float .f64 x.rank)), .p (.v (.string (mkS x.of))), .p d]
def edD (x : Ed) (d : PD) : Prop := d = .sl 1 (x.data.map encO) ∨ (d = .v (.slice none 0 0) ∧ x.data = [])
theorem frz_edC {x : Ed} {d : PD} (k : edD x d) {h : Heap} {b : Nat} : frzV h b (.agg (edC x d)) (EdV x) := by
 rcases k with rfl | ⟨rfl, e⟩
 ·exact frz_psS (encEd x)
 ·have := frz_ed0 (h := h) (b := b) x.name x.gone x.rank x.of
  rwa [show (⟨x.name, x.gone, x.rank, x.of, []⟩ : Ed) = x by rw [← e]] at this
def seeM (s : Sg) (p : S) (x : Ed) (h : Heap) (b : Nat) (st : St) : Prop :=
 st.t 1 = StrV p ∧ st.t 2 = .one (.ptr b 0 0) ∧ st.t 4 = .one (.ptr (b + 1) 0 0) ∧ st.t 5 = .one (.ptr (b + 2) 0 0) ∧ st.t 7 = .one (.ptr (b + 4) 0 0) ∧ (∃ v, st.h b = some ⟨0, (encSg v).map .p⟩) ∧
  (∃ d, st.h (b + 1) = some ⟨0, edC x d⟩ ∧ edD x d) ∧ st.h (b + 2) = some ⟨0, [.p (.v (.int .u64 0)), .p (.v (.slice none 0 0)), .p (.v (.slice none 0 0)), .p (.v (.slice none 0 0)), .p (.v (.slice none 0 0))]⟩ ∧ ∀ id, id < b → st.h id = h id
theorem seeM.of {s : Sg} {p : S} {x : Ed} {h : Heap} {b : Nat} {t t' : Nat → AV} {hh hh' : Heap} {n n' : Nat} (k : seeM s p x h b ⟨t, hh, n⟩) (e1 : t' 1 = t 1) (e2 : t' 2 = t 2) (e4 : t' 4 = t 4) (e5 : t' 5 = t 5) (e7 : t' 7 = t 7) (eh : ∀ id, id < b + 4 → hh' id = hh id) : seeM s p x h b ⟨t', hh', n'⟩ := by
 obtain ⟨k1, k2, k4, k5, k7, ⟨v, hb⟩, ⟨d, hd, hd2⟩, h2, ho⟩ := k
 simp only at k1 k2 k4 k5 k7 hb hd h2 ho
 exact ⟨e1.trans k1, e2.trans k2, e4.trans k4, e5.trans k5, e7.trans k7, ⟨v, (eh b (by omega)).trans hb⟩, ⟨d, (eh (b + 1) (by omega)).trans hd, hd2⟩, (eh (b + 2) (by omega)).trans h2, fun id hid => (eh id (by omega)).trans (ho id hid)⟩
theorem ssee_ok (s : Sg) (p : S) (z : SzS s) (h : Heap) (b : Nat) : ACalls Tryz.prog 23 [SgV s, StrV p] h b 0 (fun r h' => r = .tup [EdV (seeS keyR s p).1, SgV (seeS keyR s p).2.1, IntV (seeS keyR s p).2.2] ∧ h' = h) := by
 refine ACalls.enter Tryz.func23 rfl (by simp [Tryz.ntmps23]) (fun ι w hn H => ?_)
 have hlow := H.lowCells
 refine Rk ?_
 refine Am.AWP.mid (fun st => seeM s p zEd h b st ∧ ((startS keyR s [p] ≠ 0 ∧ st.n = 5 ∧ st.h (b + 4) = some ⟨0, seC (startS keyR s [p])⟩) ∨ (startS keyR s [p] = 0 ∧ st.n = 8 ∧ SW st.h (b + 4) (b + 5) (b + 6) (b + 7) s 0))) ?_ ?_
 ·by_cases hs : startS keyR s [p] = 0
  ·refine Ra (fun E K hE hK => ?_)
   refine CallR.use (sstartL_ok z (by simp) hs (b + 4) (show b + 3 < b + 4 by omega) (upd_same _ _ _)) body_57 ?_
   rintro _ h2 ⟨rfl, k1, k2⟩
   refine hK _ _ _ ?_; clear hE hK K E
   refine ⟨⟨by exact Er, by exact Er, by exact Er, by exact Er, by exact Er, ⟨s, (k2 b (by omega) (by omega)).trans (by exact Er)⟩, ⟨.v (.slice none 0 0), (k2 (b + 1) (by omega) (by omega)).trans (by exact Er), .inr ⟨rfl, rfl⟩⟩, (k2 (b + 2) (by omega) (by omega)).trans (by exact Er), fun id hid => by
    have hid' : id < b := hid
    have q0 : ¬ id = b := by omega
    have q1 : ¬ id = b + 1 := by omega
    have q2 : ¬ id = b + 2 := by omega
    have q3 : ¬ id = b + 3 := by omega
    exact (k2 id (show id < b + 4 by omega) (by omega)).trans (by exact Erf (jn4 @q0 @q1 @q2 @q3))⟩, .inr ⟨hs, rfl, k1⟩⟩
  ·refine Ra (fun E K hE hK => ?_)
   refine CallR.use (sstartBadL_ok z (by simp) hs (b + 4) (show b + 3 < b + 4 by omega) (upd_same _ _ _)) body_57 ?_
   rintro _ h2 ⟨rfl, k1, k2⟩
   refine hK _ _ _ ?_; clear hE hK K E
   refine ⟨⟨by exact Er, by exact Er, by exact Er, by exact Er, by exact Er, ⟨s, (k2 b (by omega) (by omega)).trans (by exact Er)⟩, ⟨.v (.slice none 0 0), (k2 (b + 1) (by omega) (by omega)).trans (by exact Er), .inr ⟨rfl, rfl⟩⟩, (k2 (b + 2) (by omega) (by omega)).trans (by exact Er), fun id hid => by
    have hid' : id < b := hid
    have q0 : ¬ id = b := by omega
    have q1 : ¬ id = b + 1 := by omega
    have q2 : ¬ id = b + 2 := by omega
    have q3 : ¬ id = b + 3 := by omega
    exact (k2 id (show id < b + 4 by omega) (by omega)).trans (by exact Erf (jn4 @q0 @q1 @q2 @q3))⟩, .inl ⟨hs, rfl, k1⟩⟩
 rintro ⟨t, h1, n⟩ ⟨hM, hc⟩
 refine Am.AWP.mid (fun st => seeM s p zEd h b st ∧ ((startS keyR s [p] ≠ 0 ∧ st.n = 5 ∧ st.h (b + 4) = some ⟨0, seC (startS keyR s [p])⟩) ∨ (startS keyR s [p] = 0 ∧ st.n = 8 ∧ SW st.h (b + 4) (b + 5) (b + 6) (b + 7) (readS s 0 p).1 (readS s 0 p).2))) ?_ ?_
 ·have hM0 := hM
  obtain ⟨e1, _, _, _, e7, _⟩ := hM0
  simp only at e1 e7
  rcases hc with ⟨hs, hn1, hw⟩ | ⟨hs, hn1, hw⟩
  ·simp only at hn1 hw; subst hn1
   have c' : (startS keyR s [p] = 0) = False := eq_false hs
   refine Rkf (jn3 @e7 @hw @c') ?_
   refine Bf ?_
   exact AWP.skip ⟨hM.of (by exact Er) (by exact Er) (by exact Er) (by exact Er) (by exact Er) (fun _ _ => rfl), .inl ⟨hs, rfl, hw⟩⟩
  ·simp only at hn1 hw; subst hn1
   obtain ⟨o, hp⟩ := start_one.1 hs
   have hw0 := hw
   obtain ⟨ev, ec, nv, nc, dv, dc, w1, _⟩ := hw0.w
   refine Rkf (jn2 @e7 @w1) ?_
   refine Bt ?_
   refine Raf (jn2 @e7 @e1) (fun E K hE hK => ?_)
   refine CallR.use (sread_ok s 0 p o.nris o.sz.nm (fun x hx => .inr (o.nchk x hx)) (.inr hp) _ (b + 8) (b + 4) (b + 5) (b + 6) (b + 7) (by omega) (by omega) (by omega) (by omega) hw) body_58 ?_
   rintro _ h2 ⟨rfl, k1, k2⟩
   refine hK _ _ _ ?_; clear hE hK K E
   exact ⟨hM.of (by exact Er) (by exact Er) (by exact Er) (by exact Er) (by exact Er) (fun id hid => k2 id (by omega) (by omega) (by omega) (by omega) (by omega)), .inr ⟨hs, rfl, k1⟩⟩
 clear hM hc t h1 n
 rintro ⟨t, h1, n⟩ ⟨hM, hc⟩
 refine Am.AWP.mid (fun st => seeM s p (seeS keyR s p).1 h b st ∧ endC st.h (b + st.n) (b + 4) (seeS keyR s p).2.1 (seeS keyR s p).2.2) ?_ ?_
 ·have hM0 := hM
  obtain ⟨e1, e2, e4, e5, e7, ⟨v, hb⟩, ⟨d, hd, hd2⟩, hb2, ho⟩ := hM0
  simp only at e1 e2 e4 e5 e7 hb hd hb2 ho
  rcases hc with ⟨hs, hn1, hw⟩ | ⟨hs, hn1, hw⟩
  ·simp only at hn1 hw; subst hn1
   have hv : seeS keyR s p = (zEd, zSg, startS keyR s [p]) := by unfold seeS; rw [if_pos hs]; rfl
   rw [hv]
   have c' : (startS keyR s [p] = 0) = False := eq_false hs
   refine Rkf (jn3 @e7 @hw @c') ?_
   refine Bf ?_
   exact AWP.skip ⟨hM.of (by exact Er) (by exact Er) (by exact Er) (by exact Er) (by exact Er) (fun _ _ => rfl), endC_bad (C5 := [.p (.v (.int .u64 0)), .p (.sl 6 []), .p (.sl 5 []), .p (.sl 1 []), .p (.sl 1 [])]) (b + 5) hs rfl (by omega) hw⟩
  ·simp only at hn1 hw; subst hn1
   obtain ⟨o, hp⟩ := start_one.1 hs
   have hw0 := hw
   obtain ⟨ev, ec, nv, nc, dv, dc, w1, _⟩ := hw0.w
   by_cases hr : (readS s 0 p).2 = 0
   ·have hv : seeS keyR s p = (whatS (readS s 0 p).1 p, (readS s 0 p).1, 0) := by unfold seeS; rw [if_neg (by rw [hs]; simp)]; simp only; rw [if_neg (by rw [hr]; simp)]
    rw [hv]
    have c' : ((readS s 0 p).2 = 0) = True := eq_true hr
    have o1 : StOK keyR (readS s 0 p).1 := o.read hp
    refine Rkf (jn3 @e7 @w1 @c') ?_
    refine Bt ?_
    rw [hr] at hw
    refine AWP.reg (by kernel_rfl) (fun E K hE hK => ?_); simp -implicitDefEqProofs only [go_sem, ↓reduceIte, Nat.reduceEqDiff, Nat.reduceAdd, Nat.reduceLT, Nat.reduceLeDiff, reduceCtorEq, Int.toNat_natCast, e7, e1, e4, hd, edC]
    refine CallR.use (swhat2_ok o1 hp hw (b + 8) (by omega) (by omega)) body_59 ?_
    rintro _ _ ⟨rfl, rfl⟩
    simp -implicitDefEqProofs only [go_sem, ↓reduceIte, Nat.reduceEqDiff, Nat.reduceAdd, Nat.reduceLT, Nat.reduceLeDiff, reduceCtorEq, Int.toNat_natCast, e4, hd, edC, EdV, encEd]
    refine hK _ _ _ ?_; clear hE hK K E
    refine ⟨⟨by exact Erf @e1, by exact Erf @e2, by exact Erf @e4, by exact Erf @e5, by exact Erf @e7, ⟨v, by exact Erf @hb⟩, ⟨_, by exact Er, .inl rfl⟩, by exact Erf @hb2, (Ouf @ho)⟩, ?_⟩
    exact endC_ok (b + 8) (by omega) (hw.of (by exact Er) (by exact Er) (by exact Er) (by exact Er))
   ·have hv : seeS keyR s p = (zEd, zSg, (readS s 0 p).2) := by unfold seeS; rw [if_neg (by rw [hs]; simp)]; simp only; rw [if_pos hr]; rfl
    rw [hv]
    have c' : ((readS s 0 p).2 = 0) = False := eq_false hr
    refine Rkf (jn3 @e7 @w1 @c') ?_
    refine Bf ?_
    obtain ⟨C5, q1, q2⟩ := hw.err
    exact AWP.skip ⟨hM.of (by exact Er) (by exact Er) (by exact Er) (by exact Er) (by exact Er) (fun _ _ => rfl), endC_bad (b + 8) hr q1 (by omega) q2⟩
 clear hM hc t h1 n
 rintro ⟨t, h1, n⟩ ⟨hM, hc⟩
 obtain ⟨⟨x, m, e⟩, hv⟩ : ∃ v, seeS keyR s p = v := ⟨_, rfl⟩
 rw [hv] at hM hc ⊢
 simp only at hM hc ⊢
 obtain ⟨e1, e2, e4, e5, e7, ⟨v, hb⟩, ⟨d, hd, hd2⟩, hb2, ho⟩ := hM
 simp only at e1 e2 e4 e5 e7 hb hd hb2 ho
 refine Rgf (jn2 @e7 @hb) (fun E K hE hK => ?_)
 refine CallR.use hc body_60 ?_
 rintro _ h2 ⟨rfl, k2⟩
 have hb' := (k2 b (by omega)).trans hb
 have hd' := (k2 (b + 1) (by omega)).trans hd
 have hb2' := (k2 (b + 2) (by omega)).trans hb2
 simp -implicitDefEqProofs only [go_sem, ↓reduceIte, Nat.reduceEqDiff, Nat.reduceAdd, Nat.reduceLT, Nat.reduceLeDiff, reduceCtorEq, Int.toNat_natCast, e2, hb', SgV, encSg]
 refine hK _ _ _ ?_; clear hE hK K E
 have hb3 : ∀ c, (upd h2 b c) (b + 1) = some ⟨0, edC x d⟩ := fun c => (upd_ne _ _ _ _ (Nat.succ_ne_self b)).trans hd'
 have hb4 : ∀ c, (upd h2 b c) (b + 2) = h2 (b + 2) := fun c => upd_ne _ _ _ _ (by omega)
 refine AWP.seqRegD [34] [] [b + 1, b + 2] mixed (by kernel_rfl) (by kernel_rfl) (fun K hK => .inl ?_) (by kernel_rfl); simp -implicitDefEqProofs only [go_sem, ↓reduceIte, Nat.reduceEqDiff, Nat.reduceAdd, Nat.reduceLT, Nat.reduceLeDiff, reduceCtorEq, Int.toNat_natCast, e2, e4, e5, hd', hb2', edC]
 have okd : ∀ hh : Heap, okC hh (.p d) = true := fun hh => by rcases hd2 with rfl | ⟨rfl, _⟩ <;> rfl
 refine ⟨(sub_ers _ _).trans (sub_ers _ _), by rcases hd2 with rfl | ⟨rfl, _⟩ <;> rfl, subA2 (by (first | (simp -implicitDefEqProofs only [go_sem, ↓reduceIte, Nat.reduceEqDiff, Nat.reduceAdd, Nat.reduceLT, Nat.reduceLeDiff, reduceCtorEq, Int.toNat_natCast, hd', edC]; first | done | rfl) | rfl)) (by omega), subB2 (by (first | (simp -implicitDefEqProofs only [go_sem, ↓reduceIte, Nat.reduceEqDiff, Nat.reduceAdd, Nat.reduceLT, Nat.reduceLeDiff, reduceCtorEq, Int.toNat_natCast, hd', edC]; first | done | rfl) | rfl)) (by exact Erf @hb2') (by omega), ?_⟩
 refine hK _ _ _ ?_; clear hK K
 refine AWP.ret ?_
 exact Ends.pure hn H (fun id hid => (upd_ne _ _ _ _ (Nat.ne_of_lt (Nat.lt_add_right 2 hid))).trans ((upd_ne _ _ _ _ (Nat.ne_of_lt (Nat.lt_add_right 1 hid))).trans ((upd_ne _ _ _ _ (Nat.ne_of_lt hid)).trans ((k2 id (Nat.lt_add_right 4 hid)).trans (ho id hid))))) (r0 := .tup [.agg (edC x d), SgV m, IntV e]) (by rw [show Tryz.f23.results.toList = [.cell 4 67, .cell 5 63, .tmp 6] from rfl]; (first | (simp -implicitDefEqProofs only [go_sem, ↓reduceIte, Nat.reduceEqDiff, Nat.reduceAdd, Nat.reduceLT, Nat.reduceLeDiff, reduceCtorEq, Int.toNat_natCast, e4, e5, edC]; first | done | rfl) | rfl)) (frz_tup3 (frz_edC hd2) (frz_psS _) (.v _)) ⟨rfl, rfl⟩
theorem movS_bad {s : Sg} {p q : S} (hs : startS keyR s [p, q] ≠ 0) : movS keyR s p q = (0, zSg, startS keyR s [p, q]) := by unfold movS; rw [if_pos hs]
theorem movS_rd {s : Sg} {p q : S} (hs : startS keyR s [p, q] = 0) (hr : (readT s p q).2 ≠ 0) : movS keyR s p q = (0, zSg, (readT s p q).2) := by
 unfold movS
 rw [if_neg (by rw [hs]; simp)]
 simp only
 rw [if_pos hr]
theorem movS_mv {s : Sg} {p q : S} (hs : startS keyR s [p, q] = 0) (hr : (readT s p q).2 = 0) : movS keyR s p q = if (moveS (readT s p q).1 p q).2.2 ≠ 0 then (0, zSg, (moveS (readT s p q).1 p q).2.2) else ((moveS (readT s p q).1 p q).1, (moveS (readT s p q).1 p q).2.1, 0) := by
 unfold movS
 rw [if_neg (by rw [hs]; simp)]
 simp only
 rw [if_neg (by unfold readT at hr; rw [hr]; simp)]
def movM (p q : S) (v : Int) (h : Heap) (b : Nat) (st : St) : Prop :=
 st.t 1 = StrV p ∧ st.t 2 = StrV q ∧ st.t 3 = .one (.ptr b 0 0) ∧ st.t 6 = IntV v ∧ st.t 7 = .one (.ptr (b + 1) 0 0) ∧ st.t 9 = .one (.ptr (b + 3) 0 0) ∧ (∃ v, st.h b = some ⟨0, (encSg v).map .p⟩) ∧
  st.h (b + 1) = some ⟨0, [.p (.v (.int .u64 0)), .p (.v (.slice none 0 0)), .p (.v (.slice none 0 0)), .p (.v (.slice none 0 0)), .p (.v (.slice none 0 0))]⟩ ∧ ∀ id, id < b → st.h id = h id
theorem movM.of {p q : S} {v v' : Int} {h : Heap} {b : Nat} {t t' : Nat → AV} {hh hh' : Heap} {n n' : Nat} (k : movM p q v h b ⟨t, hh, n⟩) (e1 : t' 1 = t 1) (e2 : t' 2 = t 2) (e3 : t' 3 = t 3) (e6 : t' 6 = IntV v') (e7 : t' 7 = t 7) (e9 : t' 9 = t 9) (eh : ∀ id, id < b + 3 → hh' id = hh id) : movM p q v' h b ⟨t', hh', n'⟩ := by
 obtain ⟨k1, k2, k3, k6, k7, k9, ⟨v, hb⟩, h2, ho⟩ := k
 simp only at k1 k2 k3 k6 k7 k9 hb h2 ho
 exact ⟨e1.trans k1, e2.trans k2, e3.trans k3, e6, e7.trans k7, e9.trans k9, ⟨v, (eh b (by omega)).trans hb⟩, (eh (b + 1) (by omega)).trans h2, fun id hid => (eh id (by omega)).trans (ho id hid)⟩
theorem smov_ok (s : Sg) (p q : S) (z : SzS s) (h : Heap) (b : Nat) : ACalls Tryz.prog 34 [SgV s, StrV p, StrV q] h b 0 (fun r h' => r = .tup [IntV (movS keyR s p q).1, SgV (movS keyR s p q).2.1, IntV (movS keyR s p q).2.2] ∧ h' = h) := by
 refine ACalls.enter Tryz.func34 rfl (by simp [Tryz.ntmps34]) (fun ι w hn H => ?_)
 have hlow := H.lowCells
 refine Rk ?_
 refine Am.AWP.mid (fun st => movM p q 0 h b st ∧ ((startS keyR s [p, q] ≠ 0 ∧ st.n = 4 ∧ st.h (b + 3) = some ⟨0, seC (startS keyR s [p, q])⟩) ∨ (startS keyR s [p, q] = 0 ∧ st.n = 7 ∧ SW st.h (b + 3) (b + 4) (b + 5) (b + 6) s 0))) ?_ ?_
 ·by_cases hs : startS keyR s [p, q] = 0
  ·refine Ra (fun E K hE hK => ?_)
   refine ⟨by decide, ?_⟩
   refine CallR.use (sstartL_ok z (by simp) hs (b + 3) (show b + 2 < b + 3 by omega) (upd_same _ _ _)) body_57 ?_
   rintro _ h2 ⟨rfl, k1, k2⟩
   refine hK _ _ _ ?_; clear hE hK K E
   refine ⟨⟨by exact Er, by exact Er, by exact Er, by exact Er, by exact Er, by exact Er, ⟨s, (k2 b (by omega) (by omega)).trans (by exact Er)⟩, (k2 (b + 1) (by omega) (by omega)).trans (by exact Er), fun id hid => ?_⟩, .inr ⟨hs, rfl, k1⟩⟩
   have hid' : id < b := hid
   have q0 : ¬ id = b := by omega
   have q1 : ¬ id = b + 1 := by omega
   have q2 : ¬ id = b + 2 := by omega
   exact (k2 id (show id < b + 3 by omega) (by omega)).trans (by exact Erf (jn3 @q0 @q1 @q2))
  ·refine Ra (fun E K hE hK => ?_)
   refine ⟨by decide, ?_⟩
   refine CallR.use (sstartBadL_ok z (by simp) hs (b + 3) (show b + 2 < b + 3 by omega) (upd_same _ _ _)) body_57 ?_
   rintro _ h2 ⟨rfl, k1, k2⟩
   refine hK _ _ _ ?_; clear hE hK K E
   refine ⟨⟨by exact Er, by exact Er, by exact Er, by exact Er, by exact Er, by exact Er, ⟨s, (k2 b (by omega) (by omega)).trans (by exact Er)⟩, (k2 (b + 1) (by omega) (by omega)).trans (by exact Er), fun id hid => ?_⟩, .inl ⟨hs, rfl, k1⟩⟩
   have hid' : id < b := hid
   have q0 : ¬ id = b := by omega
   have q1 : ¬ id = b + 1 := by omega
   have q2 : ¬ id = b + 2 := by omega
   exact (k2 id (show id < b + 3 by omega) (by omega)).trans (by exact Erf (jn3 @q0 @q1 @q2))
 rintro ⟨t, h1, n⟩ ⟨hM, hc⟩
 refine Am.AWP.mid (fun st => movM p q 0 h b st ∧ ((startS keyR s [p, q] ≠ 0 ∧ st.n = 4 ∧ st.h (b + 3) = some ⟨0, seC (startS keyR s [p, q])⟩) ∨ (startS keyR s [p, q] = 0 ∧ st.n = 7 ∧ SW st.h (b + 3) (b + 4) (b + 5) (b + 6) (readS s 0 p).1 (readS s 0 p).2))) ?_ ?_
 ·have hM0 := hM
  obtain ⟨e1, e2, _, e6, _, e9, _⟩ := hM0
  simp only at e1 e2 e6 e9
  rcases hc with ⟨hs, hn1, hw⟩ | ⟨hs, hn1, hw⟩
  ·simp only at hn1 hw; subst hn1
   refine Raf (jn2 @e9 @e1) (fun E K hE hK => ?_)
   refine Us (sreadBad_ok _ p hs _ (b + 4) (b + 3) (by omega) hw) body_58 ?_
   refine hK _ _ _ ?_; clear hE hK K E
   exact ⟨hM.of (by exact Er) (by exact Er) (by exact Er) (by exact Erf @e6) (by exact Er) (by exact Er) (fun _ _ => rfl), .inl ⟨hs, rfl, hw⟩⟩
  ·simp only at hn1 hw; subst hn1
   obtain ⟨o, hp, hq⟩ := start_two.1 hs
   refine Raf (jn2 @e9 @e1) (fun E K hE hK => ?_)
   refine CallR.use (sread_ok s 0 p o.nris o.sz.nm (fun x hx => .inr (o.nchk x hx)) (.inr hp) _ (b + 7) (b + 3) (b + 4) (b + 5) (b + 6) (by omega) (by omega) (by omega) (by omega) hw) body_58 ?_
   rintro _ h2 ⟨rfl, k1, k2⟩
   refine hK _ _ _ ?_; clear hE hK K E
   exact ⟨hM.of (by exact Er) (by exact Er) (by exact Er) (by exact Erf @e6) (by exact Er) (by exact Er) (fun id hid => k2 id (by omega) (by omega) (by omega) (by omega) (by omega)), .inr ⟨hs, rfl, k1⟩⟩
 clear hM hc t h1 n
 rintro ⟨t, h1, n⟩ ⟨hM, hc⟩
 refine Am.AWP.mid (fun st => movM p q 0 h b st ∧ ((startS keyR s [p, q] ≠ 0 ∧ st.n = 4 ∧ st.h (b + 3) = some ⟨0, seC (startS keyR s [p, q])⟩) ∨ (startS keyR s [p, q] = 0 ∧ st.n = 7 ∧ SW st.h (b + 3) (b + 4) (b + 5) (b + 6) (readT s p q).1 (readT s p q).2))) ?_ ?_
 ·have hM0 := hM
  obtain ⟨e1, e2, _, e6, _, e9, _⟩ := hM0
  simp only at e1 e2 e6 e9
  rcases hc with ⟨hs, hn1, hw⟩ | ⟨hs, hn1, hw⟩
  ·simp only at hn1 hw; subst hn1
   refine Raf (jn2 @e9 @e2) (fun E K hE hK => ?_)
   refine Us (sreadBad_ok _ q hs _ (b + 4) (b + 3) (by omega) hw) body_58 ?_
   refine hK _ _ _ ?_; clear hE hK K E
   exact ⟨hM.of (by exact Er) (by exact Er) (by exact Er) (by exact Erf @e6) (by exact Er) (by exact Er) (fun _ _ => rfl), .inl ⟨hs, rfl, hw⟩⟩
  ·simp only at hn1 hw; subst hn1
   obtain ⟨o, hp, hq⟩ := start_two.1 hs
   have o1 := o.read (e := 0) hp
   refine Raf (jn2 @e9 @e2) (fun E K hE hK => ?_)
   refine CallR.use (sread_ok (readS s 0 p).1 (readS s 0 p).2 q o1.nris o1.sz.nm (fun x hx => .inr (o1.nchk x hx)) (.inr hq) _ (b + 7) (b + 3) (b + 4) (b + 5) (b + 6) (by omega) (by omega) (by omega) (by omega) hw) body_58 ?_
   rintro _ h2 ⟨rfl, k1, k2⟩
   refine hK _ _ _ ?_; clear hE hK K E
   exact ⟨hM.of (by exact Er) (by exact Er) (by exact Er) (by exact Erf @e6) (by exact Er) (by exact Er) (fun id hid => k2 id (by omega) (by omega) (by omega) (by omega) (by omega)), .inr ⟨hs, rfl, k1⟩⟩
 clear hM hc t h1 n
 rintro ⟨t, h1, n⟩ ⟨hM, hc⟩
 refine Am.AWP.mid (fun st => ∃ v, movM p q v h b st ∧ endC st.h (b + st.n) (b + 3) (movS keyR s p q).2.1 (movS keyR s p q).2.2 ∧ (if (movS keyR s p q).2.2 = 0 then v else 0) = (movS keyR s p q).1) ?_ ?_
 ·have hM0 := hM
  obtain ⟨e1, e2, e3, e6, e7, e9, ⟨v, hb⟩, hb2, ho⟩ := hM0
  simp only at e1 e2 e3 e6 e7 e9 hb hb2 ho
  rcases hc with ⟨hs, hn1, hw⟩ | ⟨hs, hn1, hw⟩
  ·simp only at hn1 hw; subst hn1
   have c' : (startS keyR s [p, q] = 0) = False := eq_false hs
   rw [movS_bad hs]
   refine Rkf (jn3 @e9 @hw @c') ?_
   refine Bf ?_
   exact AWP.skip ⟨0, hM.of (by exact Er) (by exact Er) (by exact Er) (by exact Erf @e6) (by exact Er) (by exact Er) (fun _ _ => rfl), endC_bad (C5 := [.p (.v (.int .u64 0)), .p (.sl 6 []), .p (.sl 5 []), .p (.sl 1 []), .p (.sl 1 [])]) (b + 4) hs rfl (by omega) hw, if_neg hs⟩
  ·simp only at hn1 hw; subst hn1
   obtain ⟨o, hp, hq⟩ := start_two.1 hs
   have hw0 := hw
   obtain ⟨ev, ec, nv, nc, dv, dc, w1, _⟩ := hw0.w
   by_cases hr : (readT s p q).2 = 0
   ·have o1 : StOK keyR (readT s p q).1 := (readT_ok o hp hq hr).ok
    have c' : ((readT s p q).2 = 0) = True := eq_true hr
    rw [movS_mv hs hr]
    refine Rkf (jn3 @e9 @w1 @c') ?_
    refine Bt ?_
    rw [hr] at hw
    refine Raf (jn3 @e9 @e1 @e2) (fun E K hE hK => ?_)
    refine CallR.use (smove_ok o1 hp hq hw (b + 7) (by omega) (by omega) (by omega) (by omega)) body_84 ?_
    rintro _ h2 ⟨rfl, k1, k2⟩
    refine Ev ?_
    refine hK _ _ _ ?_; clear hE hK K E
    refine ⟨(moveS (readT s p q).1 p q).1, hM.of (by exact Er) (by exact Er) (by exact Er) (by exact Er) (by exact Er) (by exact Er) (fun id hid => k2 id (by omega) (by omega) (by omega) (by omega) (by omega)), ?_, ?_⟩
    ·have := endC_any (b + 7) (by omega) k1
     unfold endS at this
     simp only at this
     split
     ·rename_i c; rw [if_pos c] at this; exact this
     ·rename_i c; rw [if_neg c] at this; exact this
    ·by_cases c : (moveS (readT s p q).1 p q).2.2 = 0 <;> simp [c]
   ·have c' : ((readT s p q).2 = 0) = False := eq_false hr
    rw [movS_rd hs hr]
    refine Rkf (jn3 @e9 @w1 @c') ?_
    refine Bf ?_
    obtain ⟨C5, q1, q2⟩ := hw.err
    exact AWP.skip ⟨0, hM.of (by exact Er) (by exact Er) (by exact Er) (by exact Erf @e6) (by exact Er) (by exact Er) (fun _ _ => rfl), endC_bad (b + 7) hr q1 (by omega) q2, if_neg hr⟩
 clear hM hc t h1 n
 rintro ⟨t, h1, n⟩ ⟨v0, hM, hc, hv0⟩
 obtain ⟨⟨how, m, e⟩, hv⟩ : ∃ v, movS keyR s p q = v := ⟨_, rfl⟩
 rw [hv] at hc hv0 ⊢
 simp only at hc hv0 ⊢
 obtain ⟨e1, e2, e3, e6, e7, e9, ⟨v, hb⟩, hb2, ho⟩ := hM
 simp only at e1 e2 e3 e6 e7 e9 hb hb2 ho
 refine Rgf (jn2 @e9 @hb) (fun E K hE hK => ?_)
 refine CallR.use hc body_60 ?_
 rintro _ h2 ⟨rfl, k2⟩
 have hb' := (k2 b (by omega)).trans hb
 have hb2' := (k2 (b + 1) (by omega)).trans hb2
 simp -implicitDefEqProofs only [go_sem, ↓reduceIte, Nat.reduceEqDiff, Nat.reduceAdd, Nat.reduceLT, Nat.reduceLeDiff, reduceCtorEq, Int.toNat_natCast, e3, hb', SgV, encSg]
 refine hK _ _ _ ?_; clear hE hK K E
 refine Am.AWP.mid (fun st => st.t 6 = IntV how ∧ st.t 3 = .one (.ptr b 0 0) ∧ st.t 7 = .one (.ptr (b + 1) 0 0) ∧ st.t 10 = IntV e ∧ st.h b = some ⟨0, (encSg m).map .p⟩ ∧ st.h (b + 1) = some ⟨0, [.p (.v (.int .u64 0)), .p (.v (.slice none 0 0)), .p (.v (.slice none 0 0)), .p (.v (.slice none 0 0)), .p (.v (.slice none 0 0))]⟩ ∧ ∀ id, id < b → st.h id = h id) ?_ ?_
 ·have hout : ∀ c id, id < b → (upd h2 b c) id = h id := fun c id hid => (upd_ne _ _ _ _ (Nat.ne_of_lt hid)).trans ((k2 id (by omega)).trans (ho id hid))
  by_cases c : e = 0
  ·have c' : (e = 0) = True := eq_true c
   rw [if_pos c] at hv0
   subst hv0
   refine Rkf @c' ?_
   refine Bf ?_
   exact AWP.skip ⟨by exact Erf @e6, by exact Erf @e3, by exact Erf @e7, by exact Er, by exact Er, by exact Erf @hb2', hout _⟩
  ·have c' : (e = 0) = False := eq_false c
   rw [if_neg c] at hv0
   subst hv0
   refine Rkf @c' ?_
   refine Bt ?_
   refine Ra (fun E K hE hK => ?_); refine hK _ _ _ ?_; clear hE hK K E
   exact ⟨by exact Er, by exact Erf @e3, by exact Erf @e7, by exact Er, by exact Er, by exact Erf @hb2', hout _⟩
 clear hc hv0 e1 e2 e3 e6 e7 e9 hb hb2 ho k2 hb' hb2' h1 h2 t n
 rintro ⟨t, h1, n⟩ ⟨e6, e3, e7, e10, hb, hb2, ho⟩
 simp only at e6 e3 e7 e10 hb hb2 ho
 refine AWP.seqRegD [] [] [b + 1] mixed (by kernel_rfl) (by kernel_rfl) (fun K hK => .inl ?_) (by kernel_rfl); simp -implicitDefEqProofs only [go_sem, ↓reduceIte, Nat.reduceEqDiff, Nat.reduceAdd, Nat.reduceLT, Nat.reduceLeDiff, reduceCtorEq, Int.toNat_natCast, e3, e6, e7, e10, hb, hb2, encSg]
 refine ⟨sub_at _ (by exact Erf @hb2), ?_⟩
 refine hK _ _ _ ?_; clear hK K
 refine AWP.ret ?_
 exact Ends.pure hn H (fun id hid => (upd_ne _ _ _ _ (Nat.ne_of_lt (Nat.lt_add_right 1 hid))).trans (ho id hid)) (r0 := .tup [IntV how, SgV m, IntV e]) (by rw [show Tryz.f34.results.toList = [.tmp 6, .cell 7 63, .tmp 8] from rfl]; exact Erf @e7) (frz_tup3 (.v _) (frz_psS _) (.v _)) ⟨rfl, rfl⟩
def lstE (k : Nat → Int) (s : Sg) (dir : S) : Int := if checkS k s = 0 ∧ dir ≠ [] then chkN dir else checkS k s
def allN (s : Sg) : List S := s.t.map Fl.name ++ s.ed.map Ed.name
def isIn (s : Sg) (dir p : S) : Bool := (withinN dir p).1 && !(whatS s p).gone
def lstS (k : Nat → Int) (s : Sg) (dir : S) : Sg × Int :=
 if lstE k s dir ≠ 0 then (zSg, lstE k s dir) else if (putE s.dirs 0 dir).2 ≠ 0 then (zSg, (putE s.dirs 0 dir).2) else ({ s with dirs := (putE s.dirs 0 dir).1 }, 0)
theorem lstE_zero {k : Nat → Int} {s : Sg} {dir : S} : lstE k s dir = 0 ↔ StOK k s ∧ okG dir := by
 unfold lstE okG
 constructor
 ·intro h
  by_cases c : checkS k s = 0 ∧ dir ≠ []
  ·rw [if_pos c] at h; exact ⟨check_iff.1 c.1, .inr h⟩
  ·rw [if_neg c] at h
   refine ⟨check_iff.1 h, .inl ?_⟩
   exact Decidable.byContradiction fun q => c ⟨h, q⟩
 ·rintro ⟨h1, h2⟩
  have h1' := check_iff.2 h1
  by_cases c : checkS k s = 0 ∧ dir ≠ []
  ·rw [if_pos c]; exact h2.resolve_left c.2
  ·rw [if_neg c]; exact h1'
theorem dirs_ris {l : List S} (h : risesX (dirsX l) 1024 = true) : Ris nmQ l ∧ ∀ x ∈ l, okG x := by
 unfold risesX at h
 rw [Bool.and_eq_true] at h
 match l, h with
 | [], _ => exact ⟨Ris.nil, fun x hx => by simp at hx⟩
 | [] :: ds, h =>
   have h1 : riseF none ds = true := h.1
   refine ⟨Ris.cons.2 ⟨fun y hy => ?_, (rise_ris h1).1⟩, fun x hx => ?_⟩
   ·have hy2 := chk_ne (riseF_mem h1 y hy)
    show cmpF [] y < 0
    unfold cmpF
    rw [if_neg (fun e => hy2 e.symm), if_pos rfl]
    decide
   ·rcases List.mem_cons.1 hx with rfl | hx
    ·exact .inl rfl
    ·exact .inr (riseF_mem h1 x hx)
 | (c :: cs) :: ds, h =>
   have h1 : riseF none ((c :: cs) :: ds) = true := h.1
   exact ⟨(rise_ris h1).1, fun x hx => .inr (riseF_mem h1 x hx)⟩
theorem StOK.drs {k : Nat → Int} {s : Sg} (o : StOK k s) : Ris nmQ s.dirs ∧ ∀ x ∈ s.dirs, okG x := dirs_ris o.dris
theorem putE_zero {l : List S} {p : S} (h : (putE l 0 p).2 = 0) (hr : Ris nmQ l) : (putE l 0 p).1 = putQ l p := by
 unfold putE at h ⊢
 split
 ·rename_i c
  rcases c with c | c
  ·exact (putQ_has hr c).symm
  ·exact absurd rfl c
 ·rename_i c
  rw [if_neg c] at h
  split
  ·rename_i c2; rw [if_pos c2] at h; cases h
  ·rfl
theorem lst_inv {k : Nat → Int} {s m : Sg} {dir : S} (h : lstS k s dir = (m, 0)) : StOK k s ∧ okG dir ∧ m = { s with dirs := putQ s.dirs dir } := by
 unfold lstS at h
 by_cases c : lstE k s dir = 0
 ·obtain ⟨o, hd⟩ := lstE_zero.1 c
  rw [if_neg (by rw [c]; simp)] at h
  by_cases c2 : (putE s.dirs 0 dir).2 = 0
  ·rw [if_neg (by rw [c2]; simp), putE_zero c2 o.drs.1] at h
   exact ⟨o, hd, by injection h with h _; exact h.symm⟩
  ·rw [if_pos c2] at h
   injection h with _ h
   exact absurd h c2
 ·rw [if_pos c] at h
  injection h with _ h
  exact absurd h c
theorem app_st {C : Ctx} {h : Heap} {n : Nat} {K : KT} {id ver cap len m : Nat} {es fs : List (List PD)} {x : AV} (hr : RowAt h id ver cap 1 es) (hes : okEs 1 es) (hfs : okEs 1 fs) (hx : srcA h 1 x = some (m, fs.flatten.map .p)) (hlen : len = es.length) (hm : m = fs.length) (hl : len + m ≤ 1000000)
  (k : ∀ cap' T', (es ++ fs).length * 1 + T'.length = cap' * 1 → lowCs 0 T' = true → K (.one (.win id (ver + 1) 0 (len + m) cap')) (upd h id (rowB (ver + 1) (es ++ fs) T')) n) :
  BiK Tryz.prog C .append [42, 42] [.one (.win id ver 0 len cap), x] h n K := by
 obtain ⟨T, h1, h3, h4⟩ := hr
 have hfl := okEs_len hes
 refine BiK.append_own (e := 9) (sz := 1) (bytes := 16) (m := m) (xs := fs.flatten.map .p) (blk := rowB ver es T) ty_slE_42 ty_tsz_9 ty_tzero_9 rfl ty_tby_9 ty_isIntT_42 h1 rfl
  (by rw [rowB]; simp only [List.length_append, List.length_map, hfl]; omega) hx (okEs_flat hfs _) (by omega) (by decide) (by omega) (fun cap' j q1 q2 => ?_)
 have e := row_push (sz := 1) (ver := ver + 1) (len := len) (es := es) (fs := fs) (T := T) hes hlen j
 rw [show (rowB ver es T).cells = es.flatten.map .p ++ T from rfl, e]
 exact k cap' _ (by rw [List.length_replicate, List.length_append]; omega) (lowCs_junk _ _)
theorem appP_st {hS : Heap} {es : List (List PD)} (hes : okEs 1 es) (hl : es.length ≤ 1000000) : BiP Tryz.prog hS [42, 42] [.one (.p (.v (.slice none 0 0))), .one (.p (.sl 1 es))] (.one (.p (.sl 1 es))) := fun C h n _ =>
 BiK.append_ro (e := 9) (sz := 1) (bytes := 16) ty_slE_42 ty_tsz_9 ty_tzero_9 rfl ty_tby_9 ty_isIntT_42 (by unfold srcA; simp) hes (by omega) (by decide) (by omega)
abbrev zSgC : List Cell := [.p (.v (.int .u64 0)), .p (.v (.slice none 0 0)), .p (.v (.slice none 0 0)), .p (.v (.slice none 0 0)), .p (.v (.slice none 0 0))]
structure LisM (dir : S) (h : Heap) (b V : Nat) (st : St) : Prop where
 e2 : st.t 2 = .one (.ptr b 0 0)
 e3 : st.t 3 = .one (.ptr (b + 1) 0 0)
 e4 : st.t 4 = .one (.p (.v (.slice none 0 0)))
 e5 : st.t 5 = .one (.ptr (b + 2) 0 0)
 e6 : st.t 6 = IntV 0
 e7 : st.t 7 = .one (.ptr V 0 0)
 hd : st.h (b + 1) = some ⟨0, [.p (.v (.string (mkS dir)))]⟩
 h2 : st.h (b + 2) = some ⟨0, zSgC⟩
 hV : st.h V = some ⟨0, [.ptr (b + 3) 0 0]⟩
 ho : ∀ id, id < b → st.h id = h id
def LisC (b : Nat) (s : Sg) (e : Int) (V : Nat) (st : St) : Prop :=
 (e ≠ 0 ∧ st.n = 5 ∧ V = b + 4 ∧ st.h (b + 3) = some ⟨0, seC e⟩) ∨ (st.n = 8 ∧ V = b + 7 ∧ SW st.h (b + 3) (b + 4) (b + 5) (b + 6) s e)
theorem LisM.of {dir : S} {h : Heap} {b V : Nat} {t t' : Nat → AV} {hh hh' : Heap} {n n' : Nat} (k : LisM dir h b V ⟨t, hh, n⟩) (e2 : t' 2 = t 2) (e3 : t' 3 = t 3) (e4 : t' 4 = t 4) (e5 : t' 5 = t 5) (e6 : t' 6 = t 6) (e7 : t' 7 = t 7) (eh : ∀ id, id < b + 3 ∨ id = V → hh' id = hh id) : LisM dir h b V ⟨t', hh', n'⟩ := by
 obtain ⟨k2, k3, k4, k5, k6, k7, q1, q2, q3, q4⟩ := k
 exact ⟨e2.trans k2, e3.trans k3, e4.trans k4, e5.trans k5, e6.trans k6, e7.trans k7, (eh _ (.inl (by omega))).trans q1, (eh _ (.inl (by omega))).trans q2, (eh _ (.inr rfl)).trans q3, fun id hid => (eh id (.inl (by omega))).trans (q4 id hid)⟩
def lst3 (s : Sg) (dir : S) : Sg × Int := if lstE keyR s dir ≠ 0 then (s, lstE keyR s dir) else ({ s with dirs := (putE s.dirs 0 dir).1 }, (putE s.dirs 0 dir).2)
theorem lst3_err (s : Sg) (dir : S) (h : (lst3 s dir).2 ≠ 0) : lstS keyR s dir = (zSg, (lst3 s dir).2) := by
 unfold lst3 lstS at *
 by_cases c : lstE keyR s dir ≠ 0
 ·simp only [if_pos c] at h ⊢
 ·simp only [if_neg c] at h ⊢
  rw [if_pos h]
theorem lst3_ok (s : Sg) (dir : S) (h : (lst3 s dir).2 = 0) : lstS keyR s dir = ((lst3 s dir).1, 0) := by
 unfold lst3 lstS at *
 by_cases c : lstE keyR s dir ≠ 0
 ·simp only [if_pos c] at h; exact absurd h c
 ·simp only [if_neg c] at h ⊢
  rw [if_neg (by rw [h]; simp)]
theorem sub_gr2 {h h2 : Heap} {b G R : Nat} (hn : ∀ id, b ≤ id → h id = none) (ho : ∀ id, id < b → id ≠ G → id ≠ R → h2 id = h id) {c c2 : List Cell} (h1 : h G = some ⟨0, c⟩) (h2' : h2 G = some ⟨0, c2⟩) : Am.Sub (ers (delH h R) G) h2 := by
 intro id blk e
 rw [ers_lit] at e
 by_cases e1 : id = G
 ·subst e1
  rw [if_pos rfl] at e
  by_cases e2 : id = R
  ·subst e2; rw [delH_same] at e; cases e
  ·rw [delH_ne _ _ _ e2, h1] at e
   injection e with e; subst e
   exact ⟨_, h2', rfl, .inl rfl⟩
 ·rw [if_neg e1] at e
  by_cases e2 : id = R
  ·subst e2; rw [delH_same] at e; cases e
  ·rw [delH_ne _ _ _ e2] at e
   rcases Nat.lt_or_ge id b with h3 | h3
   ·exact ⟨blk, by rw [ho id h3 e1 e2]; exact e, rfl, .inr rfl⟩
   ·rw [hn id h3] at e; cases e
def lisR (s : Sg) (dir : S) (h : Heap) (r : AV) (h' : Heap) : Prop :=
 h' = h ∧ ∃ l, r = .tup [ListV l, SgV (lstS keyR s dir).1, IntV (lstS keyR s dir).2] ∧ ((lstS keyR s dir).2 ≠ 0 → l = []) ∧ ((lstS keyR s dir).2 = 0 → Ris nmQ l ∧ ∀ p, p ∈ l ↔ p ∈ allN s ∧ isIn s dir p = true)
theorem SW.cut {h : Heap} {W E N D m : Nat} {s : Sg} {e : Int} (w : SW h W E N D s e) (h1 : W < m) (h2 : E < m) (h3 : N < m) (h4 : D < m) : SW (cutH m h) W E N D s e := by
 obtain ⟨ev, ec, nv, nc, dv, dc, w1, w2, w3, w4⟩ := w.w
 exact ⟨⟨ev, ec, nv, nc, dv, dc, cutH_same h1 w1 (by simp [lowCs, lowC, h2, h3, h4]), w2.cut h2, w3.cut h3, w4.cut h4⟩, w.d1, w.d2, w.d3, w.d4, w.d5, w.d6⟩
structure LrM (s3 : Sg) (dir : S) (h : Heap) (b : Nat) (l : List S) (st : St) : Prop where
 n : st.n = 9
 e3 : st.t 3 = .one (.ptr (b + 1) 0 0)
 e5 : st.t 5 = .one (.ptr (b + 2) 0 0)
 e6 : st.t 6 = IntV 0
 e7 : st.t 7 = .one (.ptr (b + 7) 0 0)
 hd : st.h (b + 1) = some ⟨0, [.p (.v (.string (mkS dir)))]⟩
 h2 : st.h (b + 2) = some ⟨0, zSgC⟩
 hV : st.h (b + 7) = some ⟨0, [.ptr (b + 3) 0 0]⟩
 ho : ∀ id, id < b → st.h id = h id
 sw : SW st.h (b + 3) (b + 4) (b + 5) (b + 6) s3 0
 row : ∃ ver cap, st.t 4 = .one (.win (b + 8) ver 0 l.length cap) ∧ RowAt st.h (b + 8) ver cap 1 (l.map encS)
theorem LrM.cut {s3 : Sg} {dir : S} {h : Heap} {b : Nat} {l : List S} {t : Nat → AV} {hh : Heap} {m : Nat} (C : Ctx) (hC : C.b = b) (hlow : ∀ id blk, h id = some blk → ∀ c ∈ blk.cells, lowC b c = true) (k : LrM s3 dir h b l ⟨t, hh, 9⟩) : LrM s3 dir h b l ((⟨t, hh, m⟩ : St).cut C 9) := by
 subst hC
 obtain ⟨_, e3, e5, e6, e7, hd, h2, hV, ho, sw, ver, cap, q1, q2⟩ := k
 simp only at e3 e5 e6 e7 hd h2 hV ho sw q1 q2
 refine ⟨rfl, ?_, ?_, ?_, ?_, cutH_same (by omega) hd rfl, cutH_same (by omega) h2 rfl, cutH_same (by omega) hV (by simp [lowCs, lowC]), cutH_outer (by omega) ho hlow, sw.cut (by omega) (by omega) (by omega) (by omega), ver, cap, ?_, q2.cut (by omega)⟩
 ·show cutV _ (t 3) = _; rw [e3]; exact cutV_ptr (by omega)
 ·show cutV _ (t 5) = _; rw [e5]; exact cutV_ptr (by omega)
 ·show cutV _ (t 6) = _; rw [e6]; rfl
 ·show cutV _ (t 7) = _; rw [e7]; exact cutV_ptr (by omega)
 ·show cutV _ (t 4) = _; rw [q1]; exact cutV_win (by omega)
theorem okEs_n (l : List S) : okEs 1 (l.map encS) := okEs_str l
theorem el_of : ∀ l : List S, (∀ p ∈ l, okG p) → ∃ d : Array PdSt.El, d.toList.map (·.1) = l := fun l h =>
 ⟨(l.attach.map fun x => (⟨x.1, h x.1 x.2⟩ : PdSt.El)).toArray, by simp [List.map_map, Function.comp_def]⟩
structure WhS (s : Sg) : Prop where
 t : s.t.length ≤ 1000000
 ris : Ris nmE s.ed
 ed : s.ed.length ≤ 1000000
 data : ∀ x ∈ s.ed, x.data.length ≤ 1000000
 chk : ∀ x ∈ s.ed, chkN x.name = 0
theorem slist1_ok {s : Sg} {dir p : S} (o : WhS s) (hdir : okG dir) (hp : chkN p = 0) {h : Heap} {X V W B N D : Nat} (b : Nat) (hX : h X = some ⟨0, [.p (.v (.string (mkS dir)))]⟩) (hV : h V = some ⟨0, [.ptr W 0 0]⟩) (hw : SW h W B N D s 0) (hXb : X < b) (hVb : V < b) (hWb : W < b) (hBb : B < b) :
  ACalls Tryz.prog 68 [StrV p, .one (.ptr X 0 0), .one (.ptr V 0 0)] h b 0 (fun r h' => r = BoolV (!isIn s dir p) ∧ h' = h) := by
 refine ACalls.enter Tryz.func68 rfl (by simp [Tryz.ntmps68]) (fun ι w hn H => ?_)
 have hwi : withinN dir p = (decide (dir = []) || (dir ++ [47]).isPrefixOf p, 0) := by
  unfold withinN
  have hf : folN dir = 0 := by
   unfold folN
   rcases hdir with e | e
   ·rw [if_pos e]
   ·by_cases c : dir = []
    ·rw [if_pos c]
    ·rw [if_neg c]; exact e
  rw [if_neg (by rw [hf, hp]; simp)]
 unfold isIn
 have k1 := Within_ok (mkS dir) (mkS p) h (b + 0)
 rw [show bl (mkS dir) = dir from rfl, show bl (mkS p) = p from rfl, hwi] at k1
 rw [hwi]
 have k2 := swhat_ok s 0 p o.t o.ris o.ed o.data o.chk (.inr hp) h (b + 0) W B N D hWb hBb hw
 obtain ⟨v, hv⟩ : ∃ v, (decide (dir = []) || (dir ++ [47]).isPrefixOf p) = v := ⟨_, rfl⟩
 obtain ⟨y, hy⟩ : ∃ y, whatS s p = y := ⟨_, rfl⟩
 simp only at k1
 rw [hv] at k1 ⊢
 rw [hy] at k2 ⊢
 have fin : ∀ (t : Nat → AV) (u : Bool), t 4 = BoolV u → u = (!(v && !y.gone)) → Am.Ends Tryz.prog ⟨Tryz.f68.ntmps, b, ι, h, w, x0⟩ Tryz.f68 0 (fun r h' => r = BoolV (!((v, (0 : Int)).1 && !y.gone)) ∧ h' = h) ⟨t, h, 0⟩ := by
  intro t u h1 h2
  exact Ends.pure hn H (fun _ _ => rfl) (r0 := BoolV u) (by rw [show Tryz.f68.results.toList = [.tmp 4] from rfl]; exact Ecf @h1) (.v _) ⟨by rw [h2], rfl⟩
 refine Rk ?_
 refine Rgf @hX (fun E K hE hK => ?_)
 refine Us k1 body_69 ?_
 refine hK _ _ _ ?_; clear hE hK K E
 cases v with
 | false =>
   refine Rk ?_
   refine AWP.ret ?_
   refine Ev ?_
   exact fin _ true (by exact Er) rfl
 | true =>
   refine Rgf @hV (fun E K hE hK => ?_)
   refine Us k2 body_59 ?_
   cases hg : y.gone
   ·refine hK _ _ _ ?_; clear hE hK K E
    refine AWP.ret ?_
    refine Ev ?_
    exact fin _ false (by exact Er) (by rw [hg]; rfl)
   ·refine hK _ _ _ ?_; clear hE hK K E
    refine AWP.ret ?_
    refine Ev ?_
    exact fin _ true (by exact Er) (by rw [hg]; rfl)
def sgNmI (l m : List S) (h : Heap) (b i : Nat) (st : St) : Prop :=
 (∀ id, id < b → st.h id = h id) ∧ st.t 0 = ListV l ∧ st.t 1 = ListV m ∧ st.t 12 = IntV l.length ∧ st.t 13 = IntV (i : Nat) ∧ l.take i = m.take i
theorem sgNm_ok (l m : List S) (hl : l.length ≤ 1000000) (h : Heap) (b : Nat) :
  ACalls Tryz.prog 29 [ListV l, ListV m] h b 0 (fun r h' => r = BoolV (decide (l = m)) ∧ h' = h) := by
 refine ACalls.enter Tryz.func29 rfl (by simp [Tryz.ntmps29]) (fun ι w hn H => ?_)
 have hlow := H.lowCells
 have hlm : (l.map encS).length = l.length := List.length_map _
 have hmm : (m.map encS).length = m.length := List.length_map _
 have fin : ∀ (t : Nat → AV) (hh : Heap) (n : Nat) (v : Bool), t 4 = BoolV v → (∀ id, id < b → hh id = h id) → v = decide (l = m) → Am.Ends Tryz.prog ⟨Tryz.f29.ntmps, b, ι, h, w, x0⟩ Tryz.f29 0 (fun r h' => r = BoolV (decide (l = m)) ∧ h' = h) ⟨t, hh, n⟩ := by
  intro t hh n v ht ho hv
  exact Ends.pure hn H ho (r0 := BoolV v) (by rw [show Tryz.f29.results.toList = [.tmp 4] from rfl]; exact Ecf @ht) (.v _) ⟨by rw [hv], rfl⟩
 refine Rk ?_
 refine AWP.seq ?_
 by_cases hlen : (l.length : Int) = m.length
 case neg =>
  refine Rkf (jn3 @hlm @hmm @hlen) ?_
  refine Bt ?_
  refine Rk ?_
  refine AWP.ret ?_
  refine Ev ?_
  exact fin _ _ _ false (by exact Er) (fun _ _ => rfl) (decide_eq_false (fun e => hlen (by rw [e]))).symm
 refine Rkf (jn3 @hlm @hmm @hlen) ?_
 refine Bs ?_
 refine AWP.seq ?_
 refine Rkf @hlm ?_
 refine AWP.block ?_
 refine AWP.loopM 0 (fun k st => ∃ i, i ≤ l.length ∧ k = l.length - i ∧ sgNmI l m h b i st) l.length rfl ⟨0, Nat.zero_le _, rfl, Ou, by exact Er, by exact Er, by exact Er, by exact Er, rfl⟩ ?_
 rintro k ⟨t, hh, n⟩ ⟨i, hi, rfl, ho, e0, e1, e12, e13, hx⟩ hn1
 simp only at ho e0 e1 e12 e13 hn1
 subst hn1
 refine Rkf (jn2 @e12 @e13) ?_
 refine AWP.seq ?_
 by_cases hlt : (i : Int) < l.length
 ·have hw1 : IntKind.i64.wrap ((i : Int) + 1) = ((i + 1 : Nat) : Int) := by rw [wrap_i64 (by omega) (by omega)]; rfl
  have hi2 : i < l.length := by omega
  have hi3 : i < m.length := by omega
  have hltm : (i : Int) < m.length := by omega
  have hge : (l.map encS).getD i [] = encS l[i] := getD_map encS l i hi2
  have hgm : (m.map encS).getD i [] = encS m[i] := getD_map encS m i hi3
  obtain ⟨x, hf⟩ : ∃ f, l[i] = f := ⟨_, rfl⟩
  obtain ⟨y, hgy⟩ : ∃ g, m[i] = g := ⟨_, rfl⟩
  rw [hf] at hge
  rw [hgy] at hgm
  refine Btf @hlt ?_
  refine AWP.skip ?_
  refine Ev ?_
  refine AWP.seq ?_
  refine AWP.block ?_
  refine Rgf @e13 (fun E K hE hK => ?_)
  refine hK _ _ _ ?_; clear hE hK K E
  have ht1 : l.take (i + 1) = l.take i ++ [x] := by rw [List.take_add_one, List.getElem?_eq_getElem hi2, hf]; rfl
  have ht2 : m.take (i + 1) = m.take i ++ [y] := by rw [List.take_add_one, List.getElem?_eq_getElem hi3, hgy]; rfl
  by_cases hs : x = y
  ·have hs' : (x = y) = True := eq_true hs
   refine AWP.seqRegD [] [] [] mixed (by kernel_rfl) (by kernel_rfl) (fun K hK => .inl ?_) (by kernel_rfl); simp -implicitDefEqProofs only [go_sem, ↓reduceIte, Nat.reduceEqDiff, Nat.reduceAdd, Nat.reduceLT, Nat.reduceLeDiff, reduceCtorEq, Int.toNat_natCast, e0, e1, hlm, hmm, hlt, hltm, hge, hgm, encS, mkS_list, hs', decide_true]
   refine ⟨by omega, by omega, ?_⟩
   refine hK _ _ _ ?_; clear hK K
   refine Bf ?_
   refine AWP.skip ?_
   refine Ev ?_
   refine Raf (jn2 @e13 @hw1) (fun E K hE hK => ?_); refine hK _ _ _ ?_; clear hE hK K E
   exact ⟨l.length - (i + 1), by omega, i + 1, by omega, rfl, cutH_outer (Nat.le_refl _) (Ouf @ho) hlow, by exact Ecf @e0, by exact Ecf @e1, by exact Ecf @e12, by exact Er, by rw [ht1, ht2, hx, hs]⟩
  ·have hs' : (x = y) = False := eq_false hs
   refine AWP.seqRegD [] [] [] mixed (by kernel_rfl) (by kernel_rfl) (fun K hK => .inl ?_) (by kernel_rfl); simp -implicitDefEqProofs only [go_sem, ↓reduceIte, Nat.reduceEqDiff, Nat.reduceAdd, Nat.reduceLT, Nat.reduceLeDiff, reduceCtorEq, Int.toNat_natCast, e0, e1, hlm, hmm, hlt, hltm, hge, hgm, encS, mkS_list, hs', decide_false]
   refine ⟨by omega, by omega, ?_⟩
   refine hK _ _ _ ?_; clear hK K
   refine Bt ?_
   refine Rk ?_
   refine AWP.ret ?_
   refine Ev ?_
   exact fin _ _ _ false (by exact Er) (Ouf @ho) (decide_eq_false (fun e => hs (by
    have : l[i]? = m[i]? := by rw [e]
    rw [List.getElem?_eq_getElem hi2, List.getElem?_eq_getElem hi3, hf, hgy] at this
    injection this))).symm
 ·refine Bff @hlt ?_
  refine AWP.exit ?_
  refine Ev ?_
  refine Rk ?_
  refine AWP.ret ?_
  refine fin _ _ _ true (by exact Er) ho ?_
  have h1 : i = l.length := by omega
  have h2 : i = m.length := by omega
  rw [h1, List.take_length, show l.length = m.length by omega, List.take_length] at hx
  exact (decide_eq_true hx).symm
def octsB (l : S) : Bool := l.all octB
def octI (s : ByteArray) (h : Heap) (i : Nat) (st : St) : Prop :=
 st.h = h ∧ st.t 0 = StrB s ∧ st.t 5 = IntV s.size ∧ st.t 6 = IntV i ∧ ∀ c ∈ (bl s).take i, octB c = true
theorem octets_ok (s : ByteArray) (hs : s.size ≤ 1000) (h : Heap) (b : Nat) : ACalls Tryz.prog 156 [StrB s] h b 0 (fun r h' => r = BoolV (octsB (bl s)) ∧ h' = h) := by
 refine ACalls.enter Tryz.func156 rfl (by simp [Tryz.ntmps156]) (fun ι w hn H => ?_)
 have hlen := bl_len s
 have fin : ∀ (t : Nat → AV) (n : Nat) (v : Bool), t 2 = BoolV v → v = octsB (bl s) → Am.Ends Tryz.prog ⟨Tryz.f156.ntmps, b, ι, h, w, x0⟩ Tryz.f156 0 (fun r h' => r = BoolV (octsB (bl s)) ∧ h' = h) ⟨t, h, n⟩ := by
  intro t n v ht hv
  exact Ends.pure hn H (fun _ _ => rfl) (r0 := BoolV v) (by rw [show Tryz.f156.results.toList = [.tmp 2] from rfl]; exact Ecf @ht) (.v _) ⟨by rw [hv], rfl⟩
 refine Rk ?_
 refine AWP.seq ?_
 refine Rk ?_
 refine AWP.block ?_
 refine AWP.loopK 0 (fun m st => ∃ i, i ≤ s.size ∧ m = s.size - i ∧ octI s h i st) s.size rfl ⟨0, Nat.zero_le _, rfl, rfl, by exact Ec, by exact Ec, by exact Er, by simp⟩ ?_
 rintro m ⟨t, hh, n⟩ ⟨i, hi, rfl, rfl, e0, e5, e6, hok⟩ hn1
 simp only at e0 e5 e6 hn1
 subst hn1
 refine Rkf (jn2 @e5 @e6) ?_
 refine AWP.seq ?_
 by_cases hlt : (i : Int) < s.size
 ·refine Btf @hlt ?_
  refine AWP.skip ?_
  refine Ev ?_
  refine AWP.seq ?_
  refine AWP.block ?_
  refine Rkf (jn2 @e0 @e6) ?_
  obtain ⟨c, hc1, hc2⟩ := strAt_get s i (by omega)
  have next : ∀ (t' : Nat → AV), octB c = true → t' 0 = StrB s → t' 5 = IntV s.size → t' 6 = IntV (IntKind.i64.wrap ((i : Int) + 1)) → ∃ m', m' < s.size - i ∧ ∃ j, j ≤ s.size ∧ m' = s.size - j ∧ octI s hh j ⟨t', hh, 0⟩ := by
   intro t' ho e0' e5' e6'
   refine ⟨s.size - (i + 1), by omega, i + 1, by omega, rfl, rfl, e0', e5', ?_, ?_⟩
   ·show t' 6 = _
    rw [e6', wrap_i64 (by omega) (by omega)]; rfl
   ·intro x hx
    rw [List.take_add_one, hc1] at hx
    rcases List.mem_append.1 hx with hx | hx
    ·exact hok x hx
    ·simp at hx; subst hx; exact ho
  have bad : octB c = false → false = octsB (bl s) := by
   intro ho
   unfold octsB
   symm
   rw [← Bool.not_eq_true]
   intro hall
   have := List.all_eq_true.1 hall c (List.mem_of_getElem? hc1)
   rw [ho] at this; cases this
  have hbnd : (0 : Int) ≤ i ∧ (i : Int) < s.size := ⟨by omega, hlt⟩
  have h47 : ((c.toNat : Int) = 47) ↔ (c = 47) := by rw [← UInt8.toNat_inj]; have : (47 : UInt8).toNat = 47 := rfl; omega
  by_cases c1 : c = 47
  ·have c1' : ((c.toNat : Int) = 47) := h47.2 c1
   have ho : octB c = true := by subst c1; rfl
   refine Rgf (jn4 @e0 @e6 @hc2 @c1') (fun E K hE hK => ?_)
   refine ⟨hbnd, ?_⟩
   refine hK _ _ _ ?_; clear hE hK K E
   refine Bf ?_
   refine AWP.skip ?_
   refine Ev ?_
   refine Raf @e6 (fun E K hE hK => ?_); refine hK _ _ _ ?_; clear hE hK K E
   exact ⟨rfl, next _ ho (by exact Ecf @e0) (by exact Ecf @e5) (by exact Ec)⟩
  ·have c1' : ¬ ((c.toNat : Int) = 47) := fun e => c1 (h47.1 e)
   have c1b : (c == 47) = false := by simpa using c1
   by_cases c2 : (c.toNat : Int) < 33
   ·have ho : octB c = false := by unfold octB; rw [c1b, decide_eq_false (by omega)]; rfl
    refine Rgf (jn5 @e0 @e6 @hc2 @c1' @c2) (fun E K hE hK => ?_)
    refine ⟨hbnd, hbnd, ?_⟩
    refine hK _ _ _ ?_; clear hE hK K E
    refine Bt ?_
    refine Rk ?_
    refine AWP.ret ?_
    refine Ev ?_
    exact fin _ _ false (by exact Er) (bad ho)
   ·by_cases c3 : (126 : Int) < c.toNat
    ·have ho : octB c = false := by unfold octB; rw [c1b, decide_eq_false (p := c.toNat < 127) (by omega), Bool.and_false]; rfl
     refine Rgf (jn6 @e0 @e6 @hc2 @c1' @c2 @c3) (fun E K hE hK => ?_)
     refine ⟨hbnd, hbnd, hbnd, ?_⟩
     refine hK _ _ _ ?_; clear hE hK K E
     refine Bt ?_
     refine Rk ?_
     refine AWP.ret ?_
     refine Ev ?_
     exact fin _ _ false (by exact Er) (bad ho)
    ·have ho : octB c = true := by unfold octB; rw [c1b, decide_eq_true (p := c.toNat < 127) (by omega), decide_eq_true (by omega)]; rfl
     refine Rgf (jn6 @e0 @e6 @hc2 @c1' @c2 @c3) (fun E K hE hK => ?_)
     refine ⟨hbnd, hbnd, hbnd, ?_⟩
     refine hK _ _ _ ?_; clear hE hK K E
     refine Bf ?_
     refine AWP.skip ?_
     refine Ev ?_
     refine Raf @e6 (fun E K hE hK => ?_); refine hK _ _ _ ?_; clear hE hK K E
     exact ⟨rfl, next _ ho (by exact Ecf @e0) (by exact Ecf @e5) (by exact Ec)⟩
 ·refine Bff @hlt ?_
  refine AWP.exit ?_
  refine Ev ?_
  refine Rk ?_
  refine AWP.ret ?_
  refine fin _ _ true (by exact Er) ?_
  have : i = s.size := by omega
  subst this
  rw [← hlen, List.take_length] at hok
  exact (List.all_eq_true.2 hok).symm
def StrRow (h : Heap) (id ver cap : Nat) (ds : List S) : Prop := ∃ T, h id = some ⟨ver, ds.map strC ++ T⟩ ∧ ds.length + T.length = cap ∧ lowCs 0 T = true
theorem strC_low (b : Nat) (ds : List S) : lowCs b (ds.map strC) = true := lowCs_of fun c hc => by obtain ⟨k, _, rfl⟩ := List.mem_map.1 hc; rfl
theorem StrRow.cut {h : Heap} {id ver cap m : Nat} {ds : List S} (r : StrRow h id ver cap ds) (hm : id < m) : StrRow (cutH m h) id ver cap ds := by
 obtain ⟨T, h1, h2, h3⟩ := r
 exact ⟨T, cutH_same hm h1 (lowCs_app (strC_low _ _) (lowCs_mono (Nat.zero_le _) h3)), h2, h3⟩
theorem StrRow.ne {h : Heap} {id ver cap i : Nat} {ds : List S} {blk : Blk} (r : StrRow h id ver cap ds) (hi : id ≠ i) : StrRow (upd h i blk) id ver cap ds := by
 obtain ⟨T, h1, h2, h3⟩ := r
 exact ⟨T, by rw [upd_ne _ _ _ _ hi]; exact h1, h2, h3⟩
theorem append_str {C : Ctx} {h : Heap} {n : Nat} {K : KT} {id ver cap id2 : Nat} {ds : List S} {p : S} (hr : StrRow h id ver cap ds) (h2 : h id2 = some ⟨0, [strC p]⟩) (hl : ds.length ≤ 100000)
  (k : ∀ cap' T', ds.length + 1 + T'.length = cap' → lowCs 0 T' = true → K (.one (.win id (ver + 1) 0 (ds.length + 1) cap')) (upd h id ⟨ver + 1, (ds ++ [p]).map strC ++ T'⟩) n) :
  BiK Tryz.prog C .append [42, 42] [.one (.win id ver 0 ds.length cap), .one (.win id2 0 0 1 1)] h n K := by
 obtain ⟨T, h1, h3, h4⟩ := hr
 refine BiK.append_own (e := 9) (sz := 1) (bytes := 16) (m := 1) (xs := [strC p]) (blk := ⟨ver, ds.map strC ++ T⟩) ty_slE_42 ty_tsz_9 ty_tzero_9 rfl ty_tby_9 ty_isIntT_42 h1 rfl
  (by simp; omega) (by simp [srcA, h2]) (by simp [okC, Value.oneCell']) (by omega) (by decide) (by omega) (fun cap' j q1 q2 => ?_)
 have e : List.take (ds.length * 1) (ds.map strC ++ T) ++ ([strC p] ++ List.replicate j Cell.junk) = (ds ++ [p]).map strC ++ List.replicate j .junk := by
  rw [Nat.mul_one, List.take_left' (by simp)]; simp
 rw [show (⟨ver, ds.map strC ++ T⟩ : Blk).cells = ds.map strC ++ T from rfl, e]
 exact k cap' _ (by rw [List.length_replicate]; omega) (lowCs_junk _ _)
theorem parts_snoc {a x : S} {ds : List S} {c : UInt8} (h : parts a = ds ++ [x]) (hc : c ≠ 47) : parts (a ++ [c]) = ds ++ [x ++ [c]] := by
 have hm : ∀ q ∈ ds ++ [x], (47 : UInt8) ∉ q := fun q hq => (mem_parts (by rw [h]; exact hq)).1
 have hx : (47 : UInt8) ∉ x ++ [c] := by
  intro e
  rcases List.mem_append.1 e with e | e
  ·exact hm x (by simp) e
  ·simp at e; exact hc e.symm
 have ha := joinS_parts a
 rw [h] at ha
 by_cases hd : ds = []
 ·subst hd
  have : a = x := ha.symm
  rw [this, parts_one hx]; rfl
 ·rw [joinS_app hd (by simp)] at ha
  have : a ++ [c] = joinS ds ++ 47 :: (x ++ [c]) := by rw [← ha]; simp [joinS]
  rw [this, parts_app, parts_joinS hd (fun q hq => hm q (by simp [hq])), parts_one hx]
def prtI (s : ByteArray) (h : Heap) (b i : Nat) (st : St) : Prop :=
 ∃ ver cap ds f, StrRow st.h b ver cap ds ∧ (∀ id, id < b → st.h id = h id) ∧ st.t 0 = StrB s ∧ st.t 3 = .one (.win b ver 0 ds.length cap) ∧ st.t 4 = IntV (f : Nat) ∧ st.t 7 = IntV s.size ∧ st.t 8 = IntV (i : Nat) ∧ f ≤ i ∧
   parts ((bl s).take i) = ds ++ [((bl s).take i).drop f]
theorem parts_step {l ds : List _} {f i : Nat} {c : UInt8} (hf : f ≤ i) (hi : l[i]? = some c) (h : parts (l.take i) = ds ++ [(l.take i).drop f]) :
  parts (l.take (i + 1)) = if c = 47 then (ds ++ [(l.take i).drop f]) ++ [(l.take (i + 1)).drop (i + 1)] else ds ++ [(l.take (i + 1)).drop f] := by
 have ht : l.take (i + 1) = l.take i ++ [c] := by rw [List.take_add_one, hi]; rfl
 have hlt : i < l.length := (List.getElem?_eq_some_iff.1 hi).1
 split
 ·rename_i hc
  subst hc
  rw [ht, parts_app (l.take i) [], h, List.drop_of_length_le (l := l.take i ++ [47]) (by simp; omega)]; rfl
 ·rename_i hc
  rw [ht, parts_snoc h hc, List.drop_append_of_le_length (by simp; omega)]
theorem ext_mid (s : ByteArray) (f i : Nat) (hf : f ≤ i) : s.extract f i = mkS (((bl s).take i).drop f) := by
 have := mkS_extract (bl s) f i
 rw [mkS_of] at this
 rw [this, List.drop_take]
theorem Parts_ok (s : ByteArray) (hs : s.size ≤ 1000) (h : Heap) (b : Nat) : ACalls Tryz.prog 127 [StrB s] h b 0 (fun r h' => r = ListV (parts (bl s)) ∧ h' = h) := by
 refine ACalls.enter Tryz.func127 rfl (by simp [Tryz.ntmps127]) (fun ι w hn H => ?_)
 have hlow := H.lowCells
 have hlen := bl_len s
 refine Rk ?_
 refine Rk ?_
 refine AWP.virt 3 (by exact Er) ?_
 refine Ev ?_
 refine Rk ?_
 refine AWP.seq ?_
 refine Rk ?_
 refine AWP.block ?_
 refine AWP.loopM 1 (fun m st => ∃ i, i ≤ s.size ∧ m = s.size - i ∧ prtI s h b i st) s.size rfl ⟨0, Nat.zero_le _, rfl, 0, 0, [], 0, ⟨[], by exact Er, rfl, rfl⟩, Ou, by exact Er, by exact Er, by exact Er, by exact Er, by exact Er, Nat.le_refl _, rfl⟩ ?_
 rintro m ⟨t, hh, n⟩ ⟨i, hi, rfl, ver, cap, ds, f, hr, ho, e0, e3, e4, e7, e8, hf, hp⟩ hn1
 simp only at hr ho e0 e3 e4 e7 e8 hn1
 subst hn1
 have hds : ds.length ≤ 1001 := by
  have h1 := parts_len ((bl s).take i)
  rw [hp, List.length_append, List.length_take] at h1
  simp at h1; omega
 refine Rkf (jn2 @e7 @e8) ?_
 refine AWP.seq ?_
 by_cases hlt : (i : Int) < s.size
 ·refine Btf @hlt ?_
  refine AWP.skip ?_
  refine Ev ?_
  refine AWP.seq ?_
  refine AWP.block ?_
  refine Rkf @e8 ?_
  obtain ⟨c, hc1, hc2⟩ := strAt_get s i (by omega)
  have hstep := parts_step hf hc1 hp
  have h47 : ((c.toNat : Int) = 47) ↔ (c = 47) := by rw [← UInt8.toNat_inj]; have : (47 : UInt8).toNat = 47 := rfl; omega
  have hw1 : IntKind.i64.wrap ((i : Int) + 1) = ((i + 1 : Nat) : Int) := by rw [wrap_i64 (by omega) (by omega)]; rfl
  refine Rgf (jn3 @e0 @e8 @hc2) (fun E K hE hK => ?_)
  refine ⟨⟨by omega, hlt⟩, ?_⟩
  refine hK _ _ _ ?_; clear hE hK K E
  by_cases c1 : c = 47
  ·have c1' : ((c.toNat : Int) = 47) := h47.2 c1
   rw [if_pos c1] at hstep
   refine Btf @c1' ?_
   have hfi : (f : Int) ≤ i := by omega
   refine AWP.seqReg (by kernel_rfl) (fun E K hE hK => ?_); simp -implicitDefEqProofs only [go_sem, ↓reduceIte, Nat.reduceEqDiff, Nat.reduceAdd, Nat.reduceLT, Nat.reduceLeDiff, reduceCtorEq, Int.toNat_natCast, e0, e3, e4, ext_mid s f i hf]
   refine ⟨rfl, ⟨by omega, by omega⟩, ⟨by omega, by omega⟩, ?_⟩
   refine BiR.of ?_
   refine append_str (p := ((bl s).take i).drop f) (hr.ne (by omega)) (by exact Er) (by omega) (fun cap' T' q1 q2 => ?_)
   refine Ev ?_
   refine hK _ _ _ ?_; clear hE hK K E
   refine Raf @hw1 (fun E K hE hK => ?_); refine hK _ _ _ ?_; clear hE hK K E
   refine Ev ?_
   refine Raf (jn2 @e8 @hw1) (fun E K hE hK => ?_); refine hK _ _ _ ?_; clear hE hK K E
   refine ⟨(by decide : 1 ≤ 2), _, ?_, i + 1, by omega, rfl, ver + 1, cap', ds ++ [((bl s).take i).drop f], i + 1, StrRow.cut ⟨T', by exact Er, by simpa using q1, q2⟩ (Nat.lt_succ_self _), cutH_outer (Nat.le_succ _) (Ouf @ho) hlow, by exact Ecf @e0, ?_, by exact Ec, by exact Ecf @e7, by exact Ec, Nat.le_refl _, hstep⟩
   ·omega
   ·rw [List.length_append]; refine Ev ?_; exact cutV_win (Nat.lt_succ_self _)
  ·have c1' : ¬ ((c.toNat : Int) = 47) := fun e => c1 (h47.1 e)
   rw [if_neg c1] at hstep
   refine Bff @c1' ?_
   refine AWP.skip ?_
   refine Ev ?_
   refine Raf (jn2 @e8 @hw1) (fun E K hE hK => ?_); refine hK _ _ _ ?_; clear hE hK K E
   refine ⟨Nat.le_refl _, _, ?_, i + 1, by omega, rfl, ver, cap, ds, f, hr.cut (Nat.lt_succ_self _), cutH_outer (Nat.le_succ _) ho hlow, by exact Ecf @e0, by refine Evf @e3 ?_; exact cutV_win (Nat.lt_succ_self _), by exact Ecf @e4, by exact Ecf @e7, by exact Ec, by omega, hstep⟩
   omega
 ·refine Bff @hlt ?_
  refine AWP.exit ?_
  refine Ev ?_
  have hii : i = s.size := by omega
  subst hii
  rw [← hlen, List.take_length] at hp
  have hfs : (f : Int) ≤ s.size := by omega
  have hx : s.extract f s.size = mkS ((bl s).drop f) := ext_drop s f
  refine Rgf (jn4 @e0 @e3 @e4 @hx) (fun E K hE hK => ?_)
  refine ⟨rfl, ⟨by omega, by omega⟩, ?_⟩
  refine BiR.of ?_
  refine append_str (p := (bl s).drop f) (hr.ne (by omega)) (by exact Er) (by omega) (fun cap' T' q1 q2 => ?_)
  refine Ev ?_
  refine hK _ _ _ ?_; clear hE hK K E
  refine AWP.ret ?_
  have hlp : ds.length + 1 = ((parts (bl s)).map encS).length := by rw [List.length_map, hp]; simp
  refine Ends.pure hn H (Ouf @ho) (r0 := .one (.win b (ver + 1) 0 ((parts (bl s)).map encS).length cap')) (by rw [show Tryz.f127.results.toList = [.tmp 2] from rfl, ← hlp]; exact Er) (.one (frz_row0 (sz := 1) (es := (parts (bl s)).map encS) (T := T') (Nat.le_refl _) (by rw [rowB, flat_str, hp]; exact Er) (okEs_str _))) ⟨rfl, rfl⟩
def jonI (xs : List S) (h : Heap) (i : Nat) (st : St) : Prop :=
 st.h = h ∧ st.t 3 = StrV (joinS (xs.take i)) ∧ st.t 6 = ListV xs ∧ st.t 7 = IntV xs.length ∧ st.t 8 = IntV (i : Nat)
theorem wt_take (xs : List S) : ∀ i, wt (xs.take i) ≤ wt xs := by
 induction xs with
 | nil => intro i; simp
 | cons x xs ih => intro i; cases i with
                   | zero => simp [wt]
                   | succ i => rw [List.take_succ_cons]; have := ih i; simp only [wt]; omega
theorem joinL_ok (xs : List S) (hx : wt xs ≤ 10000) (h : Heap) (b : Nat) : ACalls Tryz.prog 128 [ListV xs] h b 0 (fun r h' => r = StrV (joinS xs) ∧ h' = h) := by
 refine ACalls.enter Tryz.func128 rfl (by simp [Tryz.ntmps128]) (fun ι w hn H => ?_)
 have hlx := len_wt xs
 refine Rk ?_
 refine Rk ?_
 refine AWP.seq ?_
 refine Rk ?_
 refine AWP.block ?_
 refine AWP.loopK 0 (fun m st => ∃ i, i ≤ xs.length ∧ m = xs.length - i ∧ jonI xs h i st) xs.length rfl ⟨0, Nat.zero_le _, rfl, rfl, by exact Er, by exact Er, by exact Er, by exact Er⟩ ?_
 rintro m ⟨t, hh, n⟩ ⟨i, hi, rfl, rfl, e3, e6, e7, e8⟩ hn1
 simp only at e3 e6 e7 e8 hn1
 subst hn1
 have hjl : (joinS (xs.take i)).length ≤ 10000 := by
  by_cases h0 : xs.take i = []
  ·rw [h0]; simp [joinS]
  ·have := joinS_wt h0
   have := wt_take xs i
   omega
 refine Rkf (jn2 @e7 @e8) ?_
 refine AWP.seq ?_
 by_cases hlt : (i : Int) < xs.length
 ·refine Btf @hlt ?_
  refine AWP.skip ?_
  refine Ev ?_
  refine AWP.seq ?_
  refine AWP.block ?_
  have hi2 : i < xs.length := by omega
  have hxi : xs[i].length ≤ 10000 := by
   have h1 := wt_take xs (i + 1)
   rw [List.take_add_one, List.getElem?_eq_getElem hi2, wt_app] at h1
   simp only [Option.toList_some, wt] at h1
   omega
  have hw1 : IntKind.i64.wrap ((i : Int) + 1) = ((i + 1 : Nat) : Int) := by rw [wrap_i64 (by omega) (by omega)]; rfl
  refine AWP.seqReg (by kernel_rfl) (fun E K hE hK => ?_); simp -implicitDefEqProofs only [go_sem, ↓reduceIte, Nat.reduceEqDiff, Nat.reduceAdd, Nat.reduceLT, Nat.reduceLeDiff, reduceCtorEq, Int.toNat_natCast, e6, e8, List.length_map, hlt, encS_getD xs i hi2]
  refine ⟨by omega, ?_⟩
  refine hK _ _ _ ?_; clear hE hK K E
  refine AWP.seq ?_
  refine Rk ?_
  have hs1 : (#[(47 : UInt8)] : Array UInt8).size = 1 := rfl
  have e47 : (⟨#[47]⟩ : ByteArray) = mkS [47] := rfl
  by_cases h0 : 0 < i
  ·have h0' : (0 : Int) < i := by omega
   have hne : xs.take i ≠ [] := by intro e; have := congrArg List.length e; rw [List.length_take, List.length_nil] at this; omega
   have hj : joinS (xs.take (i + 1)) = joinS (xs.take i) ++ [47] ++ xs[i] := by
    rw [List.take_add_one, List.getElem?_eq_getElem hi2, Option.toList_some, joinS_app hne (by simp)]; simp [joinS]
   have hz1 : (mkS (joinS (xs.take i))).size + (#[(47 : UInt8)] : Array UInt8).size ≤ 9223372036854775807 := by rw [mkS_size]; omega
   have hz2 : (mkS (joinS (xs.take i) ++ [47])).size + (mkS xs[i]).size ≤ 9223372036854775807 := by rw [mkS_size, mkS_size]; simp; omega
   have hcat : mkS (joinS (xs.take i)) ++ (⟨#[47]⟩ : ByteArray) = mkS (joinS (xs.take i) ++ [47]) := by rw [e47, mkS_append]
   refine Btf @h0' ?_
   refine Raf (jn3 @e3 @hz1 @hcat) (fun E K hE hK => ?_); refine hK _ _ _ ?_; clear hE hK K E
   refine Ev ?_
   refine Raf (jn2 @hz2 @mkS_append) (fun E K hE hK => ?_); refine hK _ _ _ ?_; clear hE hK K E
   refine Ev ?_
   refine Raf (jn2 @e8 @hw1) (fun E K hE hK => ?_); refine hK _ _ _ ?_; clear hE hK K E
   exact ⟨rfl, xs.length - (i + 1), by omega, i + 1, by omega, rfl, rfl, by rw [hj]; exact Ec, by exact Ecf @e6, by exact Ecf @e7, by exact Ec⟩
  ·have h0' : ¬ (0 : Int) < i := by omega
   have hi0 : i = 0 := by omega
   subst hi0
   have hj : joinS (xs.take 1) = xs[0] := by
    rw [List.take_add_one, List.getElem?_eq_getElem hi2]; simp [joinS]
   have e3' : t 3 = StrV [] := e3
   have hz2 : (mkS []).size + (mkS xs[0]).size ≤ 9223372036854775807 := by rw [mkS_size, mkS_size]; simp only [List.length_nil]; omega
   refine Bsf @h0' ?_
   refine Raf (jn3 @e3' @hz2 @mkS_append) (fun E K hE hK => ?_); refine hK _ _ _ ?_; clear hE hK K E
   refine Ev ?_
   refine Raf (jn2 @e8 @hw1) (fun E K hE hK => ?_); refine hK _ _ _ ?_; clear hE hK K E
   exact ⟨rfl, xs.length - 1, by omega, 1, by omega, rfl, rfl, by rw [hj]; exact Ec, by exact Ecf @e6, by exact Ecf @e7, by exact Er⟩
 ·refine Bff @hlt ?_
  refine AWP.exit ?_
  refine Ev ?_
  have hii : i = xs.length := by omega
  subst hii
  rw [List.take_length] at e3
  refine Rkf @e3 ?_
  refine AWP.ret ?_
  exact Ends.pure hn H (fun _ _ => rfl) (r0 := StrV (joinS xs)) (by rw [show Tryz.f128.results.toList = [.tmp 2] from rfl]; exact Er) (.v _) ⟨rfl, rfl⟩
theorem Cln_iff (l : S) : Cln l ↔ (¬ 96 < l.length ∧ octsB l = true ∧ ∀ q ∈ parts l, Good q) := by
 unfold Cln octsB
 rw [List.all_eq_true]
 constructor
 ·rintro ⟨a, b, c⟩; exact ⟨by omega, b, c⟩
 ·rintro ⟨a, b, c⟩; exact ⟨by omega, b, c⟩
def rckI (l : S) (h : Heap) (i : Nat) (st : St) : Prop :=
 st.h = h ∧ st.t 19 = ListV (parts l) ∧ st.t 20 = IntV (parts l).length ∧ st.t 21 = IntV (i : Nat) ∧ ∀ q ∈ (parts l).take i, Good q
theorem rCheck_ok (s : ByteArray) (hs : s.size ≤ 1000) (h : Heap) (b : Nat) : ACalls Tryz.prog 113 [StrB s] h b 0 (fun r h' => r = IntV (chkN (bl s)) ∧ h' = h) := by
 refine ACalls.enter Tryz.func113 rfl (by simp [Tryz.ntmps113]) (fun ι w hn H => ?_)
 have hlen := bl_len s
 have hpl := parts_len (bl s)
 have fin : ∀ (t : Nat → AV) (n : Nat) (v : Int), t 2 = IntV v → v = chkN (bl s) → Am.Ends Tryz.prog ⟨Tryz.f113.ntmps, b, ι, h, w, x0⟩ Tryz.f113 0 (fun r h' => r = IntV (chkN (bl s)) ∧ h' = h) ⟨t, h, n⟩ := by
  intro t n v ht hv
  exact Ends.pure hn H (fun _ _ => rfl) (r0 := IntV v) (by rw [show Tryz.f113.results.toList = [.tmp 2] from rfl]; exact Ecf @ht) (.v _) ⟨by rw [hv], rfl⟩
 have no : ¬ Cln (bl s) → 1 = chkN (bl s) := fun hc => by
  rcases chkN_or (bl s) with e | e
  ·exact absurd (chkN_zero.1 e) hc
  ·exact e.symm
 refine Rk ?_
 refine AWP.seq ?_
 by_cases h0 : (s.size : Int) < 1
 ·have hc : ¬ Cln (bl s) := fun hc => Cln_ne hc (List.eq_nil_of_length_eq_zero (by omega))
  refine Rkf @h0 ?_
  refine Bt ?_
  refine Rk ?_
  refine AWP.ret ?_
  refine Ev ?_
  exact fin _ _ 1 (by exact Er) (no hc)
 by_cases h1 : (96 : Int) < s.size
 ·have hc : ¬ Cln (bl s) := fun hc => ((Cln_iff _).1 hc).1 (by omega)
  refine Rkf (jn2 @h0 @h1) ?_
  refine Bt ?_
  refine Rk ?_
  refine AWP.ret ?_
  refine Ev ?_
  exact fin _ _ 1 (by exact Er) (no hc)
 by_cases h2 : octsB (bl s) = true
 case neg =>
  have h2' : octsB (bl s) = false := by simpa using h2
  have hc : ¬ Cln (bl s) := fun hc => h2 ((Cln_iff _).1 hc).2.1
  refine Rgf (jn2 @h0 @h1) (fun E K hE hK => ?_)
  refine Us (octets_ok s hs _ _) body_156 ?_
  refine Evf @h2' ?_
  refine hK _ _ _ ?_; clear hE hK K E
  refine Bt ?_
  refine Rk ?_
  refine AWP.ret ?_
  refine Ev ?_
  exact fin _ _ 1 (by exact Er) (no hc)
 refine Rgf (jn2 @h0 @h1) (fun E K hE hK => ?_)
 refine Us (octets_ok s hs _ _) body_156 ?_
 refine Evf @h2 ?_
 refine hK _ _ _ ?_; clear hE hK K E
 refine Bs ?_
 refine AWP.seq ?_
 refine Rg (fun E K hE hK => ?_)
 refine Us (Parts_ok s hs _ _) body_127 ?_
 refine hK _ _ _ ?_; clear hE hK K E
 refine AWP.block ?_
 refine AWP.loopK 0 (fun m st => ∃ i, i ≤ (parts (bl s)).length ∧ m = (parts (bl s)).length - i ∧ rckI (bl s) h i st) (parts (bl s)).length rfl ⟨0, Nat.zero_le _, rfl, rfl, by exact Er, by exact Er, by exact Er, by simp⟩ ?_
 rintro m ⟨t, hh, n⟩ ⟨i, hi, rfl, rfl, e19, e20, e21, hok⟩ hn1
 simp only at e19 e20 e21 hn1
 subst hn1
 have hw1 : IntKind.i64.wrap ((i : Int) + 1) = ((i + 1 : Nat) : Int) := by rw [wrap_i64 (by omega) (by omega)]; rfl
 refine Rkf (jn2 @e20 @e21) ?_
 refine AWP.seq ?_
 by_cases hlt : (i : Int) < (parts (bl s)).length
 ·refine Btf @hlt ?_
  refine AWP.skip ?_
  refine Ev ?_
  refine AWP.seq ?_
  refine AWP.block ?_
  have hi2 : i < (parts (bl s)).length := by omega
  obtain ⟨p, hp⟩ : ∃ p, (parts (bl s))[i] = p := ⟨_, rfl⟩
  have hmem : p ∈ parts (bl s) := by rw [← hp]; exact List.getElem_mem hi2
  have hge : ((parts (bl s)).map encS).getD i [] = [.v (.string (mkS p))] := by rw [encS_getD _ i hi2, hp]
  have bad : ¬ Good p → 1 = chkN (bl s) := fun hb => no fun hc => hb (((Cln_iff _).1 hc).2.2 p hmem)
  refine Rgf (jn4 @e19 @e21 @hlt @hge) (fun E K hE hK => ?_)
  refine ⟨by omega, ?_⟩
  refine hK _ _ _ ?_; clear hE hK K E
  by_cases p0 : p = []
  ·refine Rkf (jn3 @mkS_list @p0 @toL0) ?_
   refine Bt ?_
   refine Rk ?_
   refine AWP.ret ?_
   refine Ev ?_
   exact fin _ _ 1 (by exact Er) (bad (fun g => g.1 p0))
  by_cases p1 : p = [46]
  ·refine Rkf (jn4 @mkS_list @p1 @toL0 @toL1) ?_
   refine Bt ?_
   refine Rk ?_
   refine AWP.ret ?_
   refine Ev ?_
   exact fin _ _ 1 (by exact Er) (bad (fun g => g.2.1 p1))
  by_cases p2 : p = [46, 46]
  ·refine Rkf (jn6 @mkS_list @p2 @toL0 @toL1 @toL2 (show ¬ ([46, 46] : S) = [46] by decide)) ?_
   refine Bt ?_
   refine Rk ?_
   refine AWP.ret ?_
   refine Ev ?_
   exact fin _ _ 1 (by exact Er) (bad (fun g => g.2.2 p2))
  refine Rkf (jn7 @mkS_list @p0 @p1 @p2 @toL0 @toL1 @toL2) ?_
  refine Bf ?_
  refine AWP.skip ?_
  refine Ev ?_
  refine Raf (jn2 @e21 @hw1) (fun E K hE hK => ?_); refine hK _ _ _ ?_; clear hE hK K E
  refine ⟨rfl, (parts (bl s)).length - (i + 1), by omega, i + 1, by omega, rfl, rfl, by exact Ecf @e19, by exact Ecf @e20, by exact Ec, ?_⟩
  intro q hq
  rw [List.take_add_one, List.getElem?_eq_getElem hi2, hp] at hq
  rcases List.mem_append.1 hq with hq | hq
  ·exact hok q hq
  ·simp at hq; subst hq; exact ⟨p0, p1, p2⟩
 ·refine Bff @hlt ?_
  refine AWP.exit ?_
  refine Ev ?_
  refine Rk ?_
  refine AWP.ret ?_
  refine fin _ _ 0 (by exact Er) ?_
  have : i = (parts (bl s)).length := by omega
  subst this
  rw [List.take_length] at hok
  exact (chkN_zero.2 ((Cln_iff _).2 ⟨by omega, h2, hok⟩)).symm
theorem rFolder_ok (s : ByteArray) (hs : s.size ≤ 1000) (h : Heap) (b : Nat) : ACalls Tryz.prog 71 [StrB s] h b 0 (fun r h' => r = BoolV (decide (folN (bl s) = 0)) ∧ h' = h) := by
 refine ACalls.enter Tryz.func71 rfl (by simp [Tryz.ntmps71]) (fun ι w hn H => ?_)
 have fin : ∀ (t : Nat → AV) (n : Nat) (v : Bool), t 2 = BoolV v → v = decide (folN (bl s) = 0) → Am.Ends Tryz.prog ⟨Tryz.f71.ntmps, b, ι, h, w, x0⟩ Tryz.f71 0 (fun r h' => r = BoolV (decide (folN (bl s) = 0)) ∧ h' = h) ⟨t, h, n⟩ := by
  intro t n v ht hv
  exact Ends.pure hn H (fun _ _ => rfl) (r0 := BoolV v) (by rw [show Tryz.f71.results.toList = [.tmp 2] from rfl]; exact Ecf @ht) (.v _) ⟨by rw [hv], rfl⟩
 refine Rk ?_
 by_cases h0 : bl s = []
 ·refine Rkf (jn2 @h0 @toL0) ?_
  refine AWP.ret ?_
  exact fin _ _ true (by exact Er) (by unfold folN; rw [if_pos h0]; rfl)
 ·refine Rgf (jn2 @h0 @toL0) (fun E K hE hK => ?_)
  refine Us (rCheck_ok s hs _ _) body_113 ?_
  refine hK _ _ _ ?_; clear hE hK K E
  refine AWP.ret ?_
  exact fin _ _ (decide (chkN (bl s) = 0)) (by exact Er) (by unfold folN; rw [if_neg h0])
theorem rwithin {d p : S} (hd : Fol d) (hp : Cln p) (hne : d ≠ []) : (withinN d p).1 = (decide ((parts d).length < (parts p).length) && decide (joinS ((parts p).take (parts d).length) = d)) := by
 rw [withinN_ok hd hp]
 rw [Bool.eq_iff_iff]
 simp only [decide_eq_true_eq, Bool.and_eq_true]
 have hcd : Cln d := hd.resolve_left hne
 constructor
 ·rintro (h | ⟨ps, hps, e⟩)
  ·exact absurd h hne
  ·have := List.length_pos_iff.2 hps
   rw [e]
   refine ⟨by simp; omega, ?_⟩
   rw [List.take_left' rfl, joinS_parts]
 ·rintro ⟨h1, h2⟩
  refine .inr ⟨(parts p).drop (parts d).length, ?_, ?_⟩
  ·intro e
   have := congrArg List.length e
   rw [List.length_drop, List.length_nil] at this
   omega
  ·have hne2 : (parts p).take (parts d).length ≠ [] := by
    intro e
    have := congrArg List.length e
    have h0 := List.length_pos_iff.2 (parts_ne d)
    rw [List.length_take, List.length_nil] at this
    omega
   have : parts d = (parts p).take (parts d).length := by
    have := parts_joinS hne2 (fun q hq => (mem_parts (List.mem_of_mem_take hq)).1)
    rw [h2] at this
    exact this
   conv => rhs; lhs; rw [this]
   rw [List.take_append_drop]
theorem rWithin_ok (d p : ByteArray) (hd : d.size ≤ 1000) (hp : p.size ≤ 1000) (h : Heap) (b : Nat) : ACalls Tryz.prog 74 [StrB d, StrB p] h b 0 (fun r h' => r = .tup [BoolV (withinN (bl d) (bl p)).1, IntV (withinN (bl d) (bl p)).2] ∧ h' = h) := by
 refine ACalls.enter Tryz.func74 rfl (by simp [Tryz.ntmps74]) (fun ι w hn H => ?_)
 have fin : ∀ (t : Nat → AV) (n : Nat) (v : Bool × Int), t 4 = BoolV v.1 → t 5 = IntV v.2 → v = withinN (bl d) (bl p) → Am.Ends Tryz.prog ⟨Tryz.f74.ntmps, b, ι, h, w, x0⟩ Tryz.f74 0 (fun r h' => r = .tup [BoolV (withinN (bl d) (bl p)).1, IntV (withinN (bl d) (bl p)).2] ∧ h' = h) ⟨t, h, n⟩ := by
  intro t n v ht ht2 hv
  exact Ends.pure hn H (fun _ _ => rfl) (r0 := .tup [BoolV v.1, IntV v.2]) (by rw [show Tryz.f74.results.toList = [.tmp 4, .tmp 5] from rfl]; exact Ecf (jn2 @ht @ht2)) (frz_tup2 (.v _) (.v _)) ⟨by rw [hv], rfl⟩
 have hpl := parts_len (bl p)
 have hpd := parts_len (bl d)
 have hlp := bl_len p
 have hld := bl_len d
 refine Rk ?_
 refine AWP.seq ?_
 by_cases h1 : folN (bl d) = 0
 case neg =>
  refine Rg (fun E K hE hK => ?_)
  refine Us (rFolder_ok d hd _ _) body_71 ?_
  refine Evf @h1 ?_
  refine hK _ _ _ ?_; clear hE hK K E
  refine Bt ?_
  refine Rk ?_
  refine AWP.ret ?_
  refine Ev ?_
  exact fin _ _ (false, 1) (by exact Er) (by exact Er) (by unfold withinN; rw [if_pos (.inl h1)])
 by_cases h2 : chkN (bl p) = 0
 case neg =>
  refine Rg (fun E K hE hK => ?_)
  refine Us (rFolder_ok d hd _ _) body_71 ?_
  refine Evf @h1 ?_
  refine Us (rCheck_ok p hp _ _) body_113 ?_
  refine Evf @h2 ?_
  refine hK _ _ _ ?_; clear hE hK K E
  refine Bt ?_
  refine Rk ?_
  refine AWP.ret ?_
  refine Ev ?_
  exact fin _ _ (false, 1) (by exact Er) (by exact Er) (by unfold withinN; rw [if_pos (.inr h2)])
 refine Rg (fun E K hE hK => ?_)
 refine Us (rFolder_ok d hd _ _) body_71 ?_
 refine Evf @h1 ?_
 refine Us (rCheck_ok p hp _ _) body_113 ?_
 refine Evf @h2 ?_
 refine hK _ _ _ ?_; clear hE hK K E
 refine Bs ?_
 refine AWP.seq ?_
 refine Rk ?_
 by_cases h3 : bl d = []
 ·refine Btf (jn2 @h3 @toL0) ?_
  refine Rk ?_
  refine AWP.ret ?_
  refine Ev ?_
  exact fin _ _ (true, 0) (by exact Er) (by exact Er) (by unfold withinN; rw [if_neg (by simp [h1, h2])]; simp [h3])
 ·have hw := rwithin (folN_zero.1 h1) (chkN_zero.1 h2) h3
  have hw2 : (withinN (bl d) (bl p)).2 = 0 := by rw [withinN_ok (folN_zero.1 h1) (chkN_zero.1 h2)]
  refine Bsf (jn2 @h3 @toL0) ?_
  refine Rg (fun E K hE hK => ?_)
  refine Us (Parts_ok d hd _ _) body_127 ?_
  refine hK _ _ _ ?_; clear hE hK K E
  refine Rg (fun E K hE hK => ?_)
  refine Us (Parts_ok p hp _ _) body_127 ?_
  refine hK _ _ _ ?_; clear hE hK K E
  by_cases h4 : ((parts (bl d)).length : Int) < (parts (bl p)).length
  ·have hwp := joinS_wt (parts_ne (bl p))
   rw [joinS_parts] at hwp
   have hwt := wt_take (parts (bl p)) (parts (bl d)).length
   refine Rgf @h4 (fun E K hE hK => ?_)
   refine ⟨⟨by omega, by omega⟩, ?_⟩
   rw [← List.map_take]
   refine Us (joinL_ok _ (by omega) _ _) body_128 ?_
   refine Evf @mkS_list ?_
   refine hK _ _ _ ?_; clear hE hK K E
   refine AWP.ret ?_
   refine fin _ _ (decide (joinS ((parts (bl p)).take (parts (bl d)).length) = bl d), 0) (by exact Er) (by exact Er) ?_
   refine Prod.ext ?_ hw2.symm
   rw [hw, decide_eq_true (show (parts (bl d)).length < (parts (bl p)).length by omega), Bool.true_and]
  ·refine Rkf @h4 ?_
   refine AWP.ret ?_
   refine fin _ _ (false, 0) (by exact Er) (by exact Er) ?_
   refine Prod.ext ?_ hw2.symm
   rw [hw, decide_eq_false (show ¬ (parts (bl d)).length < (parts (bl p)).length by omega), Bool.false_and]
def lesI (xs ys : List S) (h : Heap) (i : Nat) (st : St) : Prop :=
 st.h = h ∧ st.t 5 = ListV xs ∧ st.t 6 = ListV ys ∧ st.t 7 = IntV (i : Nat) ∧ i ≤ xs.length ∧ i ≤ ys.length ∧ cmpP xs ys = cmpP (xs.drop i) (ys.drop i)
theorem rLess_ok (a c : ByteArray) (ha : a.size ≤ 1000) (hc : c.size ≤ 1000) (h : Heap) (b : Nat) : ACalls Tryz.prog 126 [StrB a, StrB c] h b 0 (fun r h' => r = BoolV (decide (cmpP (parts (bl a)) (parts (bl c)) < 0)) ∧ h' = h) := by
 refine ACalls.enter Tryz.func126 rfl (by simp [Tryz.ntmps126]) (fun ι w hn H => ?_)
 have hpa := parts_len (bl a)
 have hpc := parts_len (bl c)
 have hla := bl_len a
 have hlc := bl_len c
 refine Rk ?_
 refine Rg (fun E K hE hK => ?_)
 refine Us (Parts_ok a ha _ _) body_127 ?_
 refine hK _ _ _ ?_; clear hE hK K E
 refine Rg (fun E K hE hK => ?_)
 refine Us (Parts_ok c hc _ _) body_127 ?_
 refine hK _ _ _ ?_; clear hE hK K E
 obtain ⟨xs, hxs⟩ : ∃ xs, parts (bl a) = xs := ⟨_, rfl⟩
 obtain ⟨ys, hys⟩ : ∃ ys, parts (bl c) = ys := ⟨_, rfl⟩
 simp only [hxs, hys] at hpa hpc ⊢
 have fin : ∀ (t : Nat → AV) (n : Nat) (v : Bool), t 4 = BoolV v → v = decide (cmpP xs ys < 0) → Am.Ends Tryz.prog ⟨Tryz.f126.ntmps, b, ι, h, w, x0⟩ Tryz.f126 0 (fun r h' => r = BoolV (decide (cmpP xs ys < 0)) ∧ h' = h) ⟨t, h, n⟩ := by
  intro t n v ht hv
  exact Ends.pure hn H (fun _ _ => rfl) (r0 := BoolV v) (by rw [show Tryz.f126.results.toList = [.tmp 4] from rfl]; exact Ecf @ht) (.v _) ⟨by rw [hv], rfl⟩
 refine AWP.seq ?_
 refine Rk ?_
 refine AWP.block ?_
 refine AWP.loopK 0 (fun m st => ∃ i, m = xs.length - i ∧ lesI xs ys h i st) xs.length rfl ⟨0, rfl, rfl, by exact Er, by exact Er, by exact Er, Nat.zero_le _, Nat.zero_le _, rfl⟩ ?_
 rintro m ⟨t, hh, n⟩ ⟨i, rfl, rfl, e5, e6, e7, hi, hiy, hcm⟩ hn1
 simp only at e5 e6 e7 hn1
 subst hn1
 refine AWP.seq ?_
 have hw1 : IntKind.i64.wrap ((i : Int) + 1) = ((i + 1 : Nat) : Int) := by rw [wrap_i64 (by omega) (by omega)]; rfl
 have done : ¬ ((i : Int) < xs.length ∧ (i : Int) < ys.length) → decide ((xs.length : Int) < ys.length) = decide (cmpP xs ys < 0) := by
  intro hno
  rw [hcm, decide_eq_decide]
  by_cases hx : i < xs.length
  ·have hyy : i = ys.length := by omega
   subst hyy
   rw [List.drop_length, List.drop_eq_getElem_cons hx]
   simp only [lexC]; omega
  ·have hxx : i = xs.length := by omega
   subst hxx
   rw [List.drop_length]
   by_cases hy2 : xs.length < ys.length
   ·rw [List.drop_eq_getElem_cons hy2]
    simp only [lexC]; omega
   ·rw [(List.drop_of_length_le (by omega) : ys.drop xs.length = [])]
    simp only [lexC]; omega
 by_cases hlt : (i : Int) < xs.length
 ·by_cases hlt2 : (i : Int) < ys.length
  ·refine Rkf (jn5 @e5 @e6 @e7 @hlt @hlt2) ?_
   refine Bt ?_
   refine AWP.skip ?_
   refine Ev ?_
   refine AWP.seq ?_
   refine AWP.block ?_
   have hi2 : i < xs.length := by omega
   have hi3 : i < ys.length := by omega
   have hstep : cmpP xs ys = if cmpS xs[i] ys[i] ≠ 0 then cmpS xs[i] ys[i] else cmpP (xs.drop (i + 1)) (ys.drop (i + 1)) := by
    rw [hcm, List.drop_eq_getElem_cons hi2, List.drop_eq_getElem_cons hi3]; rfl
   refine AWP.seqRegD [] [] [] mixed (by kernel_rfl) (by kernel_rfl) (fun K hK => .inl ?_) (by kernel_rfl); simp -implicitDefEqProofs only [go_sem, ↓reduceIte, Nat.reduceEqDiff, Nat.reduceAdd, Nat.reduceLT, Nat.reduceLeDiff, reduceCtorEq, Int.toNat_natCast, e5, e6, e7, List.length_map, hlt, hlt2, encS_getD xs i hi2, encS_getD ys i hi3]
   refine ⟨by omega, by omega, ?_⟩
   refine hK _ _ _ ?_; clear hK K
   by_cases heq : xs[i] = ys[i]
   ·have h0 := (cmpS_tot.eq0 xs[i] ys[i]).2 heq
    rw [if_neg (by simp [h0])] at hstep
    refine Bff (jn2 @mkS_list @heq) ?_
    refine AWP.skip ?_
    refine Ev ?_
    refine Raf (jn2 @e7 @hw1) (fun E K hE hK => ?_); refine hK _ _ _ ?_; clear hE hK K E
    exact ⟨rfl, xs.length - (i + 1), by omega, i + 1, rfl, rfl, by exact Ecf @e5, by exact Ecf @e6, by exact Ec, by omega, by omega, hstep⟩
   ·have h0 : cmpS xs[i] ys[i] ≠ 0 := fun e => heq ((cmpS_tot.eq0 xs[i] ys[i]).1 e)
    rw [if_pos h0] at hstep
    refine Btf (jn2 @mkS_list @heq) ?_
    refine AWP.seqRegD [] [] [] mixed (by kernel_rfl) (by kernel_rfl) (fun K hK => .inl ?_) (by kernel_rfl); simp -implicitDefEqProofs only [go_sem, ↓reduceIte, Nat.reduceEqDiff, Nat.reduceAdd, Nat.reduceLT, Nat.reduceLeDiff, reduceCtorEq, Int.toNat_natCast, e5, e6, e7, List.length_map, hlt, hlt2, encS_getD xs i hi2, encS_getD ys i hi3]
    refine ⟨by omega, by omega, ?_⟩
    refine hK _ _ _ ?_; clear hK K
    refine AWP.ret ?_
    refine Ev ?_
    exact fin _ _ (Op.bytesLess xs[i] ys[i]) (by exact Er) (by rw [bytesLess_cmp, hstep])
  ·refine Rkf (jn5 @e5 @e6 @e7 @hlt @hlt2) ?_
   refine Bf ?_
   refine AWP.exit ?_
   refine Ev ?_
   refine Rkf (jn2 @e5 @e6) ?_
   refine AWP.ret ?_
   exact fin _ _ _ (by exact Er) (done (fun e => hlt2 e.2))
 ·refine Rkf (jn4 @e5 @e6 @e7 @hlt) ?_
  refine Bf ?_
  refine AWP.exit ?_
  refine Ev ?_
  refine Rkf (jn2 @e5 @e6) ?_
  refine AWP.ret ?_
  exact fin _ _ _ (by exact Er) (done (fun e => hlt e.1))
abbrev lowQ (p x : S) : Bool := decide (cmpF x p < 0)
abbrev higQ (p x : S) : Bool := decide (0 < cmpF x p)
theorem putQ_eq (l : List S) (p : S) : putQ l p = l.filter (lowQ p) ++ (p :: l.filter (higQ p)) := rfl
def wiQ (m l : List S) (p : S) (h : Heap) (b : Nat) (st : St) : Prop :=
 ∃ ver cap, RowAt st.h b ver cap 1 (m.map encS) ∧ (∀ id, id < b → st.h id = h id) ∧ st.t 0 = ListV l ∧ st.t 1 = StrV p ∧ st.t 5 = .one (.win b ver 0 m.length cap)
theorem low_eq {p x : S} (h : x = p) : lowQ p x = false := decide_eq_false (by rw [cmpF_eq.2 h]; omega)
theorem low_nil {p x : S} (h : ¬ x = p) (h2 : x = []) : lowQ p x = true := decide_eq_true (by unfold cmpF; rw [if_neg h, if_pos h2]; decide)
theorem low_top {p x : S} (h : ¬ x = p) (h2 : ¬ x = []) (h3 : p = []) : lowQ p x = false := decide_eq_false (by unfold cmpF; rw [if_neg h, if_neg h2, if_pos h3]; decide)
theorem low_cK {p x : S} (h2 : ¬ x = []) (h3 : ¬ p = []) : lowQ p x = decide (cmpP (parts x) (parts p) < 0) := by
 show decide (cmpF x p < 0) = _; rw [cmpF_clean h2 h3]
theorem hig_eq {p x : S} (h : x = p) : higQ p x = false := decide_eq_false (by rw [cmpF_eq.2 h]; omega)
theorem hig_nil {p x : S} (h : ¬ x = p) (h2 : x = []) : higQ p x = false := decide_eq_false (by unfold cmpF; rw [if_neg h, if_pos h2]; decide)
theorem hig_top {p x : S} (h : ¬ x = p) (h2 : ¬ x = []) (h3 : p = []) : higQ p x = true := decide_eq_true (by unfold cmpF; rw [if_neg h, if_neg h2, if_pos h3]; decide)
theorem hig_cK {p x : S} (h2 : ¬ x = []) (h3 : ¬ p = []) : higQ p x = decide (cmpP (parts p) (parts x) < 0) := by
 show decide (0 < cmpF x p) = _; rw [cmpF_clean h2 h3]
 have := cK_anti x p
 exact decide_eq_decide.2 (by show 0 < cmpP _ _ ↔ cK p x < 0; rw [this]; show 0 < cK x p ↔ _; omega)
theorem rwith_ok (l : List S) (p : S) (hl : l.length ≤ 40000) (hs : ∀ x ∈ l, x.length ≤ 1000) (hp1 : p.length ≤ 1000) (h : Heap) (b : Nat) :
  ACalls Tryz.prog 72 [ListV l, StrV p] h b 0 (fun r h' => r = ListV (putQ l p) ∧ h' = h) := by
 refine ACalls.enter Tryz.func72 rfl (by simp [Tryz.ntmps72]) (fun ι w hn H => ?_)
 rw [putQ_eq]
 have hlow := H.lowCells
 have hlm : (l.map encS).length = l.length := List.length_map _
 have hps : (mkS p).size ≤ 1000 := by rw [mkS_size]; exact hp1
 refine Rk ?_
 refine Rk ?_
 refine AWP.virt 5 (by exact Er) ?_
 refine Ev ?_
 refine AWP.mid (fun s' => s'.n = 1 ∧ wiQ (l.filter (lowQ p)) l p h b s') ?_ ?_
 ·refine Rkf @hlm ?_
  refine AWP.block ?_
  refine AWP.loopM 1 (fun m st => ∃ i, i ≤ l.length ∧ m = l.length - i ∧ wiQ ((l.take i).filter (lowQ p)) l p h b st ∧ st.t 10 = ListV l ∧ st.t 11 = IntV l.length ∧ st.t 12 = IntV (i : Nat)) l.length rfl ⟨0, Nat.zero_le _, rfl, ⟨0, 0, RowAt.nil, Ou, by exact Er, by exact Er, by exact Er⟩, by exact Er, by exact Er, by exact Er⟩ ?_
  rintro m ⟨t, hh, n⟩ ⟨i, hi, rfl, ⟨ver, cap, hr, ho, e0, e1, e5⟩, e10, e11, e12⟩ hn1
  simp only at hr ho e0 e1 e5 e10 e11 e12 hn1
  subst hn1
  refine Rkf (jn2 @e11 @e12) ?_
  refine AWP.seq ?_
  by_cases hlt : (i : Int) < l.length
  ·have hw1 : IntKind.i64.wrap ((i : Int) + 1) = ((i + 1 : Nat) : Int) := by rw [wrap_i64 (by omega) (by omega)]; rfl
   have hi2 : i < l.length := by omega
   have hge : (l.map encS).getD i [] = encS l[i] := getD_map encS l i hi2
   have htk : (l.take (i + 1)).filter (lowQ p) = (l.take i).filter (lowQ p) ++ (if lowQ p l[i] = true then [l[i]] else []) := by
    rw [List.take_add_one, List.filter_append, List.getElem?_eq_getElem hi2]
    cases hq : lowQ p l[i] <;> simp [hq]
   have hfl : ((l.take i).filter (lowQ p)).length ≤ 100000 := by
    have : ((l.take i).filter (lowQ p)).length ≤ l.length := Nat.le_trans (List.length_filter_le _ _) (by rw [List.length_take]; omega)
    omega
   obtain ⟨x, hx⟩ : ∃ x, l[i] = x := ⟨_, rfl⟩
   have hxs : (mkS x).size ≤ 1000 := by rw [mkS_size, ← hx]; exact hs _ (List.getElem_mem hi2)
   rw [hx] at hge htk
   generalize (l.take i).filter (lowQ p) = m at hr e5 htk hfl
   refine Btf @hlt ?_
   refine AWP.skip ?_
   refine Ev ?_
   refine AWP.seq ?_
   refine AWP.block ?_
   refine AWP.seqReg (by kernel_rfl) (fun E K hE hK => ?_); simp -implicitDefEqProofs only [go_sem, ↓reduceIte, Nat.reduceEqDiff, Nat.reduceAdd, Nat.reduceLT, Nat.reduceLeDiff, reduceCtorEq, Int.toNat_natCast, e10, e12, hlm, hlt, hge, encS]
   refine ⟨by omega, ?_⟩
   refine hK _ _ _ ?_; clear hE hK K E
   refine AWP.mid (fun st => st.n = 1 ∧ st.h = hh ∧ st.t 0 = ListV l ∧ st.t 1 = StrV p ∧ st.t 5 = .one (.win b ver 0 m.length cap) ∧ st.t 7 = StrV x ∧ st.t 10 = ListV l ∧ st.t 11 = IntV l.length ∧ st.t 12 = IntV (i : Nat) ∧ st.t 31 = BoolV (lowQ p x)) ?_ ?_
   ·by_cases c1 : x = p
    ·have c1' : (x = p) = True := eq_true c1
     rw [low_eq c1]
     refine Raf (jn3 @e1 @mkS_list @c1') (fun E K hE hK => ?_); refine hK _ _ _ ?_; clear hE hK K E
     exact ⟨rfl, rfl, by exact Ecf @e0, by exact Ecf @e1, by exact Ecf @e5, by exact Er, by exact Ecf @e10, by exact Ecf @e11, by exact Ecf @e12, by exact Er⟩
    have c1' : (x = p) = False := eq_false c1
    by_cases c2 : x = []
    ·have c2' : (x = []) = True := eq_true c2
     rw [low_nil c1 c2]
     refine Raf (jn4 @e1 @mkS_list @c1' @c2') (fun E K hE hK => ?_); refine hK _ _ _ ?_; clear hE hK K E
     exact ⟨rfl, rfl, by exact Ecf @e0, by exact Ecf @e1, by exact Ecf @e5, by exact Er, by exact Ecf @e10, by exact Ecf @e11, by exact Ecf @e12, by exact Er⟩
    have c2' : (x = []) = False := eq_false c2
    by_cases c3 : p = []
    ·have c3' : (p = []) = True := eq_true c3
     rw [low_top c1 c2 c3]
     refine Raf (jn5 @e1 @mkS_list @c1' @c2' @c3') (fun E K hE hK => ?_); refine hK _ _ _ ?_; clear hE hK K E
     exact ⟨rfl, rfl, by exact Ecf @e0, by exact Ecf @e1, by exact Ecf @e5, by exact Er, by exact Ecf @e10, by exact Ecf @e11, by exact Ecf @e12, by exact Er⟩
    have c3' : (p = []) = False := eq_false c3
    rw [low_cK c2 c3]
    obtain ⟨v, hv⟩ : ∃ v, decide (cmpP (parts x) (parts p) < 0) = v := ⟨_, rfl⟩
    have kl := rLess_ok (mkS x) (mkS p) hxs hps
    rw [show bl (mkS x) = x from rfl, show bl (mkS p) = p from rfl, hv] at kl
    rw [hv]
    cases v
    all_goals
     refine Raf (jn5 @e1 @mkS_list @c1' @c2' @c3') (fun E K hE hK => ?_)
     refine Us (kl _ _) body_126 ?_
     refine hK _ _ _ ?_; clear hE hK K E
     exact ⟨rfl, rfl, by exact Ecf @e0, by exact Ecf @e1, by exact Ecf @e5, by exact Er, by exact Ecf @e10, by exact Ecf @e11, by exact Ecf @e12, by exact Er⟩
   clear e0 e1 e5 e10 e11 e12 t
   rintro ⟨t, _, n⟩ ⟨rfl, rfl, e0, e1, e5, e9, e10, e11, e12, ec⟩
   simp only at e0 e1 e5 e9 e10 e11 e12 ec hr ho
   cases hls : lowQ p x
   ·rw [hls] at ec
    rw [hls, if_neg (by decide), List.append_nil] at htk
    refine Bff @ec ?_
    refine AWP.skip ?_
    refine Ev ?_
    refine Raf (jn2 @e12 @hw1) (fun E K hE hK => ?_); refine hK _ _ _ ?_; clear hE hK K E
    refine ⟨(by decide : 1 ≤ 1), l.length - (i + 1), by omega, i + 1, by omega, rfl, ⟨ver, cap, by rw [htk]; exact hr.cut (show b < b + 1 by omega), cutH_outer (Nat.le_add_right _ _) ho hlow, by exact Ecf @e0, by exact Ecf @e1, by rw [htk]; refine Evf @e5 ?_; exact cutV_win (show b < b + 1 by omega)⟩, by exact Ecf @e10, by exact Ecf @e11, by exact Er⟩
   ·rw [hls] at ec
    rw [hls, if_pos rfl] at htk
    refine Btf @ec ?_
    refine Raf (jn2 @e5 @e9) (fun E K hE hK => ?_)
    refine BiR.of ?_
    refine app_st (m := 1) (fs := [encS x]) (hr.ne (by omega)) (okEs_n _) (okEs_n [x]) (srcA_row (sz := 1) (m := 1) (es := [encS x]) (T := []) 0 (upd_same _ _ _) (okEs_n [x]) (by simp) (.inl rfl)) (by rw [List.length_map]) rfl (by omega) (fun cap' T' q1 q2 => ?_)
    refine Ev ?_
    refine hK _ _ _ ?_; clear hE hK K E
    refine Ev ?_
    refine Raf (jn2 @e12 @hw1) (fun E K hE hK => ?_); refine hK _ _ _ ?_; clear hE hK K E
    have hml : (m ++ [x]).length = m.length + 1 := by simp
    refine ⟨(by decide : 1 ≤ 2), l.length - (i + 1), by omega, i + 1, by omega, rfl, ⟨ver + 1, cap', by rw [htk, List.map_append]; exact (RowAt.new q1 q2).cut (show b < b + 1 by omega), cutH_outer (Nat.le_add_right _ _) (Ouf @ho) hlow, by exact Ecf @e0, by exact Ecf @e1, by rw [htk, hml]; refine Ev ?_; exact cutV_win (show b < b + 1 by omega)⟩, by exact Ecf @e10, by exact Ecf @e11, by exact Er⟩
  ·refine Bff @hlt ?_
   refine AWP.exit ?_
   refine Ev ?_
   have hil : i = l.length := by omega
   subst hil
   rw [List.take_length] at hr e5
   exact ⟨ver, cap, hr, ho, e0, e1, e5⟩
 rintro ⟨t, hh, n⟩ ⟨hn1, ver, cap, hr, ho, e0, e1, e5⟩
 simp only at hr ho e0 e1 e5 hn1
 subst hn1
 have hfl0 : (l.filter (lowQ p)).length ≤ 40000 := Nat.le_trans (List.length_filter_le _ _) hl
 obtain ⟨m0, hm0⟩ : ∃ m0, l.filter (lowQ p) = m0 := ⟨_, rfl⟩
 rw [hm0] at hr e5 hfl0 ⊢
 refine Rgf (jn2 @e1 @e5) (fun E K hE hK => ?_)
 refine BiR.of ?_
 refine app_st (m := 1) (fs := [encS p]) (hr.ne (by omega)) (okEs_n _) (okEs_n [p]) (srcA_row (sz := 1) (m := 1) (es := [encS p]) (T := []) 0 (upd_same _ _ _) (okEs_n [p]) (by simp) (.inl rfl)) (by rw [List.length_map]) rfl (by omega) (fun cap0 T1 q1 q2 => ?_)
 refine Ev ?_
 refine hK _ _ _ ?_; clear hE hK K E
 have hr1 : RowAt (upd (upd hh (b + 1) ⟨0, [.p (.v (.string (mkS p)))]⟩) b (rowB (ver + 1) (m0.map encS ++ [encS p]) T1)) b (ver + 1) cap0 1 ((m0 ++ [p]).map encS) := by rw [List.map_append]; exact RowAt.new q1 q2
 have hm1 : (m0 ++ [p]).length = m0.length + 1 := by simp
 refine AWP.seq ?_
 refine Rkf (jn2 @e0 @hlm) ?_
 refine AWP.block ?_
 refine AWP.loopM 2 (fun m st => ∃ i, i ≤ l.length ∧ m = l.length - i ∧ wiQ ((m0 ++ [p]) ++ (l.take i).filter (higQ p)) l p h b st ∧ st.t 41 = ListV l ∧ st.t 42 = IntV l.length ∧ st.t 43 = IntV (i : Nat)) l.length rfl ⟨0, Nat.zero_le _, rfl, ⟨ver + 1, cap0, by rw [List.take_zero, List.filter_nil, List.append_nil]; exact hr1, (Ouf @ho), by exact Erf @e0, by exact Erf @e1, by rw [List.take_zero, List.filter_nil, List.append_nil, hm1]; exact Er⟩, by exact Er, by exact Er, by exact Er⟩ ?_
 clear hr ho e0 e1 e5 hr1 q1
 rintro m ⟨t, hh, n⟩ ⟨i, hi, rfl, ⟨ver, cap, hr, ho, e0, e1, e5⟩, e10, e11, e12⟩ hn1
 simp only at hr ho e0 e1 e5 e10 e11 e12 hn1
 subst hn1
 refine Rkf (jn2 @e11 @e12) ?_
 refine AWP.seq ?_
 by_cases hlt : (i : Int) < l.length
 ·have hw1 : IntKind.i64.wrap ((i : Int) + 1) = ((i + 1 : Nat) : Int) := by rw [wrap_i64 (by omega) (by omega)]; rfl
  have hi2 : i < l.length := by omega
  have hge : (l.map encS).getD i [] = encS l[i] := getD_map encS l i hi2
  have htk : (m0 ++ [p]) ++ (l.take (i + 1)).filter (higQ p) = (m0 ++ [p]) ++ (l.take i).filter (higQ p) ++ (if higQ p l[i] = true then [l[i]] else []) := by
   rw [List.take_add_one, List.filter_append, List.getElem?_eq_getElem hi2]
   cases hq : higQ p l[i] <;> simp [hq]
  have hfl : ((m0 ++ [p]) ++ (l.take i).filter (higQ p)).length ≤ 100000 := by
   have : ((l.take i).filter (higQ p)).length ≤ l.length := Nat.le_trans (List.length_filter_le _ _) (by rw [List.length_take]; omega)
   rw [List.length_append, hm1]; omega
  obtain ⟨x, hx⟩ : ∃ x, l[i] = x := ⟨_, rfl⟩
  have hxs : (mkS x).size ≤ 1000 := by rw [mkS_size, ← hx]; exact hs _ (List.getElem_mem hi2)
  rw [hx] at hge htk
  generalize (m0 ++ [p]) ++ (l.take i).filter (higQ p) = m at hr e5 htk hfl
  refine Btf @hlt ?_
  refine AWP.skip ?_
  refine Ev ?_
  refine AWP.seq ?_
  refine AWP.block ?_
  refine AWP.seqReg (by kernel_rfl) (fun E K hE hK => ?_); simp -implicitDefEqProofs only [go_sem, ↓reduceIte, Nat.reduceEqDiff, Nat.reduceAdd, Nat.reduceLT, Nat.reduceLeDiff, reduceCtorEq, Int.toNat_natCast, e10, e12, hlm, hlt, hge, encS]
  refine ⟨by omega, ?_⟩
  refine hK _ _ _ ?_; clear hE hK K E
  refine AWP.mid (fun st => st.n = 2 ∧ st.h = hh ∧ st.t 0 = ListV l ∧ st.t 1 = StrV p ∧ st.t 5 = .one (.win b ver 0 m.length cap) ∧ st.t 9 = StrV x ∧ st.t 41 = ListV l ∧ st.t 42 = IntV l.length ∧ st.t 43 = IntV (i : Nat) ∧ st.t 62 = BoolV (higQ p x)) ?_ ?_
  ·by_cases c1 : x = p
   ·have c1' : (x = p) = True := eq_true c1
    rw [hig_eq c1]
    refine Raf (jn3 @e1 @mkS_list @c1') (fun E K hE hK => ?_); refine hK _ _ _ ?_; clear hE hK K E
    exact ⟨rfl, rfl, by exact Ecf @e0, by exact Ecf @e1, by exact Ecf @e5, by exact Er, by exact Ecf @e10, by exact Ecf @e11, by exact Ecf @e12, by exact Er⟩
   have c1' : (x = p) = False := eq_false c1
   by_cases c2 : x = []
   ·have c2' : (x = []) = True := eq_true c2
    rw [hig_nil c1 c2]
    refine Raf (jn4 @e1 @mkS_list @c1' @c2') (fun E K hE hK => ?_); refine hK _ _ _ ?_; clear hE hK K E
    exact ⟨rfl, rfl, by exact Ecf @e0, by exact Ecf @e1, by exact Ecf @e5, by exact Er, by exact Ecf @e10, by exact Ecf @e11, by exact Ecf @e12, by exact Er⟩
   have c2' : (x = []) = False := eq_false c2
   by_cases c3 : p = []
   ·have c3' : (p = []) = True := eq_true c3
    rw [hig_top c1 c2 c3]
    refine Raf (jn5 @e1 @mkS_list @c1' @c2' @c3') (fun E K hE hK => ?_); refine hK _ _ _ ?_; clear hE hK K E
    exact ⟨rfl, rfl, by exact Ecf @e0, by exact Ecf @e1, by exact Ecf @e5, by exact Er, by exact Ecf @e10, by exact Ecf @e11, by exact Ecf @e12, by exact Er⟩
   have c3' : (p = []) = False := eq_false c3
   rw [hig_cK c2 c3]
   obtain ⟨v, hv⟩ : ∃ v, decide (cmpP (parts p) (parts x) < 0) = v := ⟨_, rfl⟩
   have kl := rLess_ok (mkS p) (mkS x) hps hxs
   rw [show bl (mkS x) = x from rfl, show bl (mkS p) = p from rfl, hv] at kl
   rw [hv]
   cases v
   all_goals
    refine Raf (jn5 @e1 @mkS_list @c1' @c2' @c3') (fun E K hE hK => ?_)
    refine Us (kl _ _) body_126 ?_
    refine hK _ _ _ ?_; clear hE hK K E
    exact ⟨rfl, rfl, by exact Ecf @e0, by exact Ecf @e1, by exact Ecf @e5, by exact Er, by exact Ecf @e10, by exact Ecf @e11, by exact Ecf @e12, by exact Er⟩
  clear e0 e1 e5 e10 e11 e12 t
  rintro ⟨t, _, n⟩ ⟨rfl, rfl, e0, e1, e5, e9, e10, e11, e12, ec⟩
  simp only at e0 e1 e5 e9 e10 e11 e12 ec hr ho
  cases hls : higQ p x
  ·rw [hls] at ec
   rw [hls, if_neg (by decide), List.append_nil] at htk
   refine Bff @ec ?_
   refine AWP.skip ?_
   refine Ev ?_
   refine Raf (jn2 @e12 @hw1) (fun E K hE hK => ?_); refine hK _ _ _ ?_; clear hE hK K E
   refine ⟨(by decide : 2 ≤ 2), l.length - (i + 1), by omega, i + 1, by omega, rfl, ⟨ver, cap, by rw [htk]; exact hr.cut (show b < b + 2 by omega), cutH_outer (Nat.le_add_right _ _) ho hlow, by exact Ecf @e0, by exact Ecf @e1, by rw [htk]; refine Evf @e5 ?_; exact cutV_win (show b < b + 2 by omega)⟩, by exact Ecf @e10, by exact Ecf @e11, by exact Er⟩
  ·rw [hls] at ec
   rw [hls, if_pos rfl] at htk
   refine Btf @ec ?_
   refine Raf (jn2 @e5 @e9) (fun E K hE hK => ?_)
   refine BiR.of ?_
   refine app_st (m := 1) (fs := [encS x]) (hr.ne (by omega)) (okEs_n _) (okEs_n [x]) (srcA_row (sz := 1) (m := 1) (es := [encS x]) (T := []) 0 (upd_same _ _ _) (okEs_n [x]) (by simp) (.inl rfl)) (by rw [List.length_map]) rfl (by omega) (fun cap' T' q1 q2 => ?_)
   refine Ev ?_
   refine hK _ _ _ ?_; clear hE hK K E
   refine Ev ?_
   refine Raf (jn2 @e12 @hw1) (fun E K hE hK => ?_); refine hK _ _ _ ?_; clear hE hK K E
   have hml : (m ++ [x]).length = m.length + 1 := by simp
   refine ⟨(by decide : 2 ≤ 3), l.length - (i + 1), by omega, i + 1, by omega, rfl, ⟨ver + 1, cap', by rw [htk, List.map_append]; exact (RowAt.new q1 q2).cut (show b < b + 2 by omega), cutH_outer (Nat.le_add_right _ _) (Ouf @ho) hlow, by exact Ecf @e0, by exact Ecf @e1, by rw [htk, hml]; refine Ev ?_; exact cutV_win (show b < b + 2 by omega)⟩, by exact Ecf @e10, by exact Ecf @e11, by exact Er⟩
 ·refine Bff @hlt ?_
  refine AWP.exit ?_
  refine Ev ?_
  have hil : i = l.length := by omega
  subst hil
  rw [List.take_length] at hr e5
  have hE : m0 ++ (p :: l.filter (higQ p)) = (m0 ++ [p]) ++ l.filter (higQ p) := by simp
  rw [hE]
  obtain ⟨mm, hmm⟩ : ∃ mm, (m0 ++ [p]) ++ l.filter (higQ p) = mm := ⟨_, rfl⟩
  rw [hmm] at hr e5 ⊢
  refine Rkf @e5 ?_
  refine AWP.frzRow 4 (by exact Er) hr (okEs_str mm) (by rw [List.length_map]) ?_
  refine AWP.ret ?_
  refine Ev ?_
  exact Ends.pure hn H (fun id (hid : id < b) => by simp -implicitDefEqProofs only [go_sem, ↓reduceIte, Nat.reduceEqDiff, Nat.reduceAdd, Nat.reduceLT, Nat.reduceLeDiff, reduceCtorEq, Int.toNat_natCast, delH, show ¬ id = b by omega]; exact ho id hid) (r0 := ListV mm) (by rw [show Tryz.f72.results.toList = [.tmp 4] from rfl]; exact Er) (frzV.p _) ⟨rfl, rfl⟩
theorem ord0 {x : Nat} (hx : x < 9223372036854775808) (h : FloatKind.f64.format.order x 0 = some .eq) : x = 0 := by
 unfold Ieee.Format.order at h
 have r0 : FloatKind.f64.format.read 0 = .number false 0 FloatKind.f64.format.leastPlace := by decide
 rw [r0] at h
 unfold Ieee.Format.read at h
 simp only at h
 have hw : FloatKind.f64.format.signWeight = 9223372036854775808 := by decide
 have hb : FloatKind.f64.format.binade = 4503599627370496 := by decide
 rw [hw, Nat.mod_eq_of_lt hx] at h
 split at h
 ·simp only [Ieee.Datum.order, Option.some.injEq] at h
  have h2 := Int.compare_eq_eq.1 h
  unfold Ieee.signed at h2
  have e0 : (0 : Nat) <<< (FloatKind.f64.format.leastPlace - min FloatKind.f64.format.leastPlace FloatKind.f64.format.leastPlace).toNat = 0 := by simp
  have e1 : x <<< (FloatKind.f64.format.leastPlace - min FloatKind.f64.format.leastPlace FloatKind.f64.format.leastPlace).toNat = x := by simp
  rw [e0, e1] at h2
  split at h2 <;> simp at h2 <;> omega
 ·split at h
  ·simp only [Ieee.Datum.order, Option.some.injEq] at h
   have h2 := Int.compare_eq_eq.1 h
   unfold Ieee.signed at h2
   rw [hb] at h2
   have hp : ∀ (m k : Nat), 0 < m → 0 < m <<< k := fun m k hm => by rw [Nat.shiftLeft_eq]; exact Nat.mul_pos hm (Nat.two_pow_pos k)
   have q := fun k => hp (4503599627370496 + x % 4503599627370496) k (by omega)
   have e0 : ∀ k : Nat, (0 : Nat) <<< k = 0 := fun k => by simp
   rw [e0] at h2
   have q2 := q (FloatKind.f64.format.leastPlace + ((x / 4503599627370496 - 1 : Nat) : Int) - min (FloatKind.f64.format.leastPlace + ((x / 4503599627370496 - 1 : Nat) : Int)) FloatKind.f64.format.leastPlace).toNat
   split at h2 <;> simp only [Bool.false_eq_true, if_false] at h2 <;> omega
  ·split at h
   ·simp only [Ieee.Datum.order, Option.some.injEq] at h
    split at h <;> cases h
   ·cases h
theorem key0 {x : Nat} (hx : x < 18446744073709551616) : keyR x = keyR 0 ↔ (FloatKind.f64.format.order x 0 = some .eq ∧ ¬ IntKind.i64.wrap (x : Int) < 0) := by
 have h0 : (FloatKind.f64.format.order 0 0 != some .eq) = false := by decide
 have w0 : IntKind.u64.wrap (((0 : Nat) : Int) + 9223372036854775808) = 9223372036854775808 := by decide
 have k0 : keyR 0 = 9223372036854775808 := by
  rw [key_eq 0 (by decide)]; unfold keyD
  rw [h0, if_neg (by decide), if_pos (by decide), w0]
 have hw : IntKind.i64.wrap (x : Int) < 0 ↔ ¬ (x : Int) < 9223372036854775808 := by rw [IntKind.wrap_i64]; omega
 constructor
 ·intro e
  rw [k0, key_eq x hx] at e
  unfold keyD at e
  split at e
  ·cases e
  ·split at e
   ·rename_i c
    rw [Go.IntKind.wrap_u64] at e
    have : x = 0 := by omega
    subst this
    exact ⟨by decide, fun q => hw.1 q c⟩
   ·rw [Go.IntKind.wrap_u64] at e
    omega
 ·rintro ⟨h1, h2⟩
  have h3 : (x : Int) < 9223372036854775808 := Decidable.byContradiction fun q => h2 (hw.2 q)
  rw [ord0 (by omega) h1]
def fileF (t : List Fl) (p : S) : Option Fl := t.find? fun f => decide (f.name = p)
theorem find_kL {p : S} : ∀ {l : List Fl} {q : Option S}, tabF q l = true → fileF l p = if hasL p l = true then l[kL p l]? else none
 | [], _, _ => by simp [fileF, hasL]
 | g :: l, q, h => by
   have h1 : tabF (some g.name) l = true := by
    unfold tabF at h
    simp only [Bool.and_eq_true] at h
    exact h.2.2
   unfold fileF hasL kL
   by_cases c : cK g.name p < 0
   ·have hne : g.name ≠ p := fun e => by rw [cK_eq.2 e] at c; omega
    rw [if_pos c, if_pos c, List.find?_cons_of_neg (by simpa using hne)]
    have ih := find_kL (p := p) h1
    unfold fileF at ih
    rw [ih, List.getElem?_cons_succ]
   ·rw [if_neg c, if_neg c]
    by_cases c2 : cK g.name p = 0
    ·rw [List.find?_cons_of_pos (by simpa using cK_eq.1 c2), decide_eq_true c2, if_pos rfl]; rfl
    ·have hne : g.name ≠ p := fun e => c2 (cK_eq.2 e)
     rw [List.find?_cons_of_neg (by simpa using hne), decide_eq_false c2, if_neg (by decide)]
     refine List.find?_eq_none.2 fun f hf => ?_
     have := tabF_gt h1 f hf
     simp only [decide_eq_true_eq]
     intro e
     rw [e] at this
     omega
theorem fileF_name {t : List Fl} {p : S} {f : Fl} (h : fileF t p = some f) : f ∈ t ∧ f.name = p := ⟨List.mem_of_find?_eq_some h, by have := List.find?_some h; simpa using this⟩
theorem fileT_eq {t : List Fl} {p : S} (ht : checkT t = 0) : fileT t p = fileF t p := by
 unfold fileT
 by_cases c : chkN p = 0
 ·rw [if_neg (by rw [ht, c]; simp), find_kL (checkT_zero.1 ht).2]
 ·rw [if_pos (.inr c)]
  cases hf : fileF t p with
  | none => rfl
  | some f =>
    obtain ⟨h1, h2⟩ := fileF_name hf
    exact absurd (by rw [← h2]; exact mayF_chk (tabF_may (checkT_zero.1 ht).2 f h1)) c
theorem ris_ext {l m : List S} (h1 : Ris nmQ l) (h2 : Ris nmQ m) (h : ∀ p, p ∈ l ↔ p ∈ m) : l = m := by
 refine ext_get h1 h2 fun p => ?_
 by_cases c : p ∈ l
 ·rw [getK_of h1 c rfl, getK_of h2 ((h p).1 c) rfl]
 ·rw [getK_none.2 (fun x hx e => c (by rw [← show x = p from e]; exact hx)), getK_none.2 (fun x hx e => c ((h p).2 (by rw [← show x = p from e]; exact hx)))]
theorem putQ_mem {l : List S} {p x : S} : x ∈ putQ l p ↔ x = p ∨ x ∈ l := by
 unfold putQ
 rw [set_mem]
 constructor
 ·rintro (e | ⟨e, _⟩)
  ·injection e with e; exact .inl e.symm
  ·exact .inr e
 ·rintro (rfl | e)
  ·exact .inl rfl
  ·by_cases c : x = p
   ·exact .inl (by rw [c])
   ·exact .inr ⟨e, c⟩
theorem putQ_ris {l : List S} {p : S} (h : Ris nmQ l) : Ris nmQ (putQ l p) := h.set fun x e => by injection e with e; exact e.symm
theorem putQ_len1 {l : List S} {p : S} (h : Ris nmQ l) (hn : ¬ (getK nmQ p l).isSome = true) : (putQ l p).length = l.length + 1 := by
 have hs := congrArg List.length (splitK (p := p) h)
 have hg : getK nmQ p l = none := by cases hq : getK nmQ p l with
  | none => rfl
  | some x => rw [hq] at hn; exact absurd rfl hn
 rw [hg] at hs
 unfold putQ setK
 simp only [Option.toList_none, Option.toList_some, List.length_append, List.length_nil, List.length_cons] at hs ⊢
 omega
theorem foldQ : ∀ (l acc : List S), Ris nmQ acc → Ris nmQ (l.foldl putQ acc) ∧ ∀ x, x ∈ l.foldl putQ acc ↔ x ∈ acc ∨ x ∈ l
 | [], acc, h => ⟨h, fun x => by simp⟩
 | p :: l, acc, h => by
   obtain ⟨h1, h2⟩ := foldQ l (putQ acc p) (putQ_ris h)
   refine ⟨h1, fun x => ?_⟩
   rw [List.foldl_cons, h2 x, putQ_mem, List.mem_cons]
   constructor
   ·rintro ((rfl | e) | e)
    ·exact .inr (.inl rfl)
    ·exact .inl e
    ·exact .inr (.inr e)
   ·rintro (e | rfl | e)
    ·exact .inl (.inr e)
    ·exact .inl (.inl rfl)
    ·exact .inr e
def namR (s : Sg) : List S := ((allN s).foldl putQ []).filter fun p => !(whatS s p).gone
def lisF (s : Sg) (dir : S) : List S := (namR s).filter fun p => (withinN dir p).1
theorem lisF_eq {s : Sg} {dir : S} {l : List S} (h : Ris nmQ l) (hm : ∀ p, p ∈ l ↔ p ∈ allN s ∧ isIn s dir p = true) : l = lisF s dir := by
 obtain ⟨h1, h2⟩ := foldQ (allN s) [] Ris.nil
 refine ris_ext h ((h1.sub List.filter_sublist).sub List.filter_sublist) fun p => ?_
 rw [hm p]
 unfold lisF namR isIn
 rw [List.mem_filter, List.mem_filter, h2 p]
 simp only [List.not_mem_nil, false_or, Bool.and_eq_true]
 constructor
 ·rintro ⟨a, b, c⟩; exact ⟨⟨a, c⟩, b⟩
 ·rintro ⟨⟨a, c⟩, b⟩; exact ⟨a, b, c⟩
theorem chk01 (p : S) : chkN p = 0 ∨ chkN p = 1 := by unfold chkN; split; exact .inl rfl; exact .inr rfl
theorem checkS01 (k : Nat → Int) (s : Sg) : checkS k s = 0 ∨ checkS k s = 1 := by
 unfold checkS
 split
 ·exact .inr rfl
 ·split
  ·exact .inl rfl
  ·exact .inr rfl
def rdF (s : Sg) (p : S) : Sg × Int := if checkS keyR s ≠ 0 ∨ chkN p ≠ 0 then (zSg, 1) else if 1024 < (putQ s.names p).length then (zSg, 6) else ({ s with names := putQ s.names p }, 0)
theorem start1 {s : Sg} {p : S} : startS keyR s [p] = if checkS keyR s = 0 then chkN p else checkS keyR s := rfl
theorem see_eq (s : Sg) (p : S) : seeS keyR s p = if (rdF s p).2 ≠ 0 then (⟨[], false, 0, [], []⟩, zSg, (rdF s p).2) else (whatS (rdF s p).1 p, (rdF s p).1, 0) := by
 by_cases c : checkS keyR s = 0
 ·by_cases c2 : chkN p = 0
  ·have hs : startS keyR s [p] = 0 := by rw [start1, if_pos c, c2]
   have o := check_iff.1 c
   have hb : ¬ (checkS keyR s ≠ 0 ∨ chkN p ≠ 0) := by rw [c, c2]; simp
   have hsee : seeS keyR s p = if (readS s 0 p).2 ≠ 0 then (⟨[], false, 0, [], []⟩, zSg, (readS s 0 p).2) else (whatS (readS s 0 p).1 p, (readS s 0 p).1, 0) := by
    unfold seeS; rw [if_neg (by rw [hs]; simp)]
   have hr : readS s 0 p = rdF s p ∨ ((readS s 0 p).2 = 6 ∧ (rdF s p).2 = 6) := by
    unfold readS rdF
    rw [if_neg hb]
    by_cases c3 : (getK nmQ p s.names).isSome = true
    ·rw [if_pos (show _ ∨ _ from .inl c3), putQ_has o.nris c3, if_neg (show ¬ 1024 < s.names.length by have := o.nlen; omega)]
     exact .inl rfl
    ·rw [if_neg (show ¬ ((getK nmQ p s.names).isSome = true ∨ (0 : Int) ≠ 0) from fun q => q.elim c3 (fun e => e rfl)), putQ_len1 o.nris c3]
     by_cases c4 : s.names.length = 1024
     ·rw [if_pos c4, if_pos (by omega)]; exact .inr ⟨rfl, rfl⟩
     ·rw [if_neg c4, if_neg (by have := o.nlen; omega)]; exact .inl rfl
   rw [hsee]
   rcases hr with hr | ⟨h1, h2⟩
   ·rw [hr]
   ·rw [h1, h2, if_pos (by decide), if_pos (by decide)]
  ·have h1 : chkN p = 1 := (chk01 p).resolve_left c2
   have hs : startS keyR s [p] = 1 := by rw [start1, if_pos c, h1]
   have hd : rdF s p = (zSg, 1) := by unfold rdF; rw [if_pos (.inr c2)]
   unfold seeS
   rw [if_pos (by rw [hs]; decide), hs, hd, if_pos (by decide)]
 ·have h1 : checkS keyR s = 1 := (checkS01 _ s).resolve_left c
  have hs : startS keyR s [p] = 1 := by rw [start1, if_neg c, h1]
  have hd : rdF s p = (zSg, 1) := by unfold rdF; rw [if_pos (.inl c)]
  unfold seeS
  rw [if_pos (by rw [hs]; decide), hs, hd, if_pos (by decide)]
theorem lst_eq (s : Sg) (dir : S) : lstS keyR s dir = if checkS keyR s ≠ 0 ∨ folN dir ≠ 0 then (zSg, 1) else if 1024 < (putQ s.dirs dir).length then (zSg, 6) else ({ s with dirs := putQ s.dirs dir }, 0) := by
 unfold lstS
 by_cases c : checkS keyR s = 0
 ·by_cases c2 : folN dir = 0
  ·have o := check_iff.1 c
   have hl : lstE keyR s dir = 0 := by
    unfold lstE
    unfold folN at c2
    by_cases c3 : dir = []
    ·rw [if_neg (fun q => q.2 c3), c]
    ·rw [if_pos ⟨c, c3⟩]; rwa [if_neg c3] at c2
   rw [if_neg (by rw [hl]; simp), if_neg (show ¬ (checkS keyR s ≠ 0 ∨ folN dir ≠ 0) by rw [c, c2]; simp)]
   unfold putE
   by_cases c3 : (getK nmQ dir s.dirs).isSome = true
   ·rw [if_pos (show (getK nmQ dir s.dirs).isSome = true ∨ (0 : Int) ≠ 0 from .inl c3), putQ_has o.drs.1 c3, if_neg (show ¬ 1024 < s.dirs.length by have := o.dlen; omega)]; rfl
   ·rw [if_neg (show ¬ ((getK nmQ dir s.dirs).isSome = true ∨ (0 : Int) ≠ 0) from fun q => q.elim c3 (fun e => e rfl)), putQ_len1 o.drs.1 c3]
    by_cases c4 : s.dirs.length = 1024
    ·rw [if_pos c4, if_pos (by show (6 : Int) ≠ 0; decide), if_pos (show 1024 < s.dirs.length + 1 by omega)]
    ·rw [if_neg c4, if_neg (show ¬ (putQ s.dirs dir, (0 : Int)).2 ≠ 0 by simp), if_neg (show ¬ 1024 < s.dirs.length + 1 by have := o.dlen; omega)]
  ·have hl : lstE keyR s dir = 1 := by
    unfold lstE
    unfold folN at c2
    by_cases c3 : dir = []
    ·rw [if_pos c3] at c2; exact absurd rfl c2
    ·rw [if_pos ⟨c, c3⟩]; rw [if_neg c3] at c2; exact (chk01 dir).resolve_left c2
   rw [if_pos (by rw [hl]; decide), hl, if_pos (show checkS keyR s ≠ 0 ∨ folN dir ≠ 0 from .inr c2)]
 ·have hl : lstE keyR s dir = 1 := by
   unfold lstE
   rw [if_neg (fun q => c q.1)]
   exact (checkS01 _ s).resolve_left c
  rw [if_pos (by rw [hl]; decide), hl, if_pos (show checkS keyR s ≠ 0 ∨ folN dir ≠ 0 from .inl c)]
def rRisI (l : List S) (h : Heap) (i : Nat) (st : St) : Prop :=
 st.h = h ∧ st.t 0 = ListV l ∧ st.t 5 = ListV l ∧ st.t 6 = IntV l.length ∧ st.t 7 = IntV (i : Nat) ∧ riseF none l = riseF (if i = 0 then none else l[i - 1]?) (l.drop i) ∧ ∀ p ∈ l.take i, chkN p = 0
theorem rRise_ok (l : List S) (hl : l.length ≤ 1000000) (hs : ∀ p ∈ l, p.length ≤ 1000) (h : Heap) (b : Nat) : ACalls Tryz.prog 173 [ListV l] h b 0 (fun r h' => r = BoolV (riseF none l) ∧ h' = h) := by
 refine ACalls.enter Tryz.func173 rfl (by simp [Tryz.ntmps173]) (fun ι w hn H => ?_)
 have fin : ∀ (t : Nat → AV) (n : Nat) (v : Bool), t 2 = BoolV v → v = riseF none l → Am.Ends Tryz.prog ⟨Tryz.f173.ntmps, b, ι, h, w, x0⟩ Tryz.f173 0 (fun r h' => r = BoolV (riseF none l) ∧ h' = h) ⟨t, h, n⟩ := by
  intro t n v ht hv
  exact Ends.pure hn H (fun _ _ => rfl) (r0 := BoolV v) (by rw [show Tryz.f173.results.toList = [.tmp 2] from rfl]; exact Ecf @ht) (.v _) ⟨by rw [hv], rfl⟩
 refine Rk ?_
 refine AWP.seq ?_
 refine Rk ?_
 refine AWP.block ?_
 refine AWP.loopK 0 (fun m st => ∃ i, i ≤ l.length ∧ m = l.length - i ∧ rRisI l h i st) l.length rfl ⟨0, Nat.zero_le _, rfl, rfl, by exact Er, by exact Er, by exact Er, by exact Er, rfl, by simp⟩ ?_
 rintro m ⟨t, hh, n⟩ ⟨i, hi, rfl, rfl, e0, e5, e6, e7, hr, hpre⟩ hn1
 simp only at e0 e5 e6 e7 hn1
 subst hn1
 have hw1 : IntKind.i64.wrap ((i : Int) + 1) = ((i + 1 : Nat) : Int) := by rw [wrap_i64 (by omega) (by omega)]; rfl
 refine Rkf (jn2 @e6 @e7) ?_
 refine AWP.seq ?_
 by_cases hlt : (i : Int) < l.length
 ·refine Btf @hlt ?_
  refine AWP.skip ?_
  refine Ev ?_
  refine AWP.seq ?_
  refine AWP.block ?_
  have hi2 : i < l.length := by omega
  obtain ⟨p, hp⟩ : ∃ p, l[i] = p := ⟨_, rfl⟩
  have hge : (l.map encS).getD i [] = [.v (.string (mkS p))] := by rw [encS_getD _ i hi2, hp]
  have hdr : l.drop i = p :: l.drop (i + 1) := by rw [List.drop_eq_getElem_cons hi2, hp]
  have hpi : l[i]? = some p := by rw [List.getElem?_eq_getElem hi2, hp]
  have hps : (mkS p).size ≤ 1000 := by rw [mkS_size, ← hp]; exact hs _ (List.getElem_mem hi2)
  have hpre2 : chkN p = 0 → ∀ x ∈ l.take (i + 1), chkN x = 0 := by
   intro hc x hx
   rw [List.take_add_one, hpi] at hx
   rcases List.mem_append.1 hx with hx | hx
   ·exact hpre x hx
   ·simp at hx; subst hx; exact hc
  refine Rgf (jn4 @e5 @e7 @hlt @hge) (fun E K hE hK => ?_)
  refine ⟨by omega, ?_⟩
  refine hK _ _ _ ?_; clear hE hK K E
  by_cases hc : chkN p = 0
  case neg =>
   refine Rg (fun E K hE hK => ?_)
   refine Us (rCheck_ok (mkS p) hps _ _) body_113 ?_
   refine Evf (jn2 @mkS_list @hc) ?_
   refine hK _ _ _ ?_; clear hE hK K E
   refine Bt ?_
   refine Rk ?_
   refine AWP.ret ?_
   refine Ev ?_
   refine fin _ _ false (by exact Er) ?_
   symm
   rw [← Bool.not_eq_true]
   intro hT
   exact hc (riseF_mem hT p (by rw [← hp]; exact List.getElem_mem hi2))
  by_cases h0 : i = 0
  ·subst h0
   have h0' : ¬ (0 : Int) < ((0 : Nat) : Int) := by decide
   refine Rgf (jn2 @e7 @h0') (fun E K hE hK => ?_)
   refine Us (rCheck_ok (mkS p) hps _ _) body_113 ?_
   refine Evf (jn4 @mkS_list @hc @e7 @h0') ?_
   refine hK _ _ _ ?_; clear hE hK K E
   refine Bf ?_
   refine AWP.skip ?_
   refine Ev ?_
   refine Raf (jn2 @e7 @hw1) (fun E K hE hK => ?_); refine hK _ _ _ ?_; clear hE hK K E
   refine ⟨rfl, _, ?_, 1, by omega, rfl, rfl, by exact Ecf @e0, by exact Ecf @e5, by exact Ecf @e6, by exact Er, ?_, hpre2 hc⟩
   ·omega
   ·rw [hr, hdr, if_pos rfl, if_neg (by decide), hpi]
    show (decide (chkN p = 0) && (true && _)) = _
    rw [decide_eq_true hc]; simp
  ·have h0' : (0 : Int) < i := by omega
   rw [if_neg h0, hdr] at hr
   have hi3 : i - 1 < l.length := by omega
   obtain ⟨q, hq⟩ : ∃ q, l[i - 1] = q := ⟨_, rfl⟩
   have hqi : l[i - 1]? = some q := by rw [List.getElem?_eq_getElem hi3, hq]
   rw [hqi] at hr
   have hge2 : (l.map encS).getD (i - 1) [] = [.v (.string (mkS q))] := by rw [encS_getD _ (i - 1) hi3, hq]
   have hwm : IntKind.i64.wrap ((i : Int) - 1) = ((i - 1 : Nat) : Int) := by rw [wrap_i64 (by omega) (by omega)]; omega
   have hlt2 : ((i - 1 : Nat) : Int) < l.length := by omega
   have hqs : (mkS q).size ≤ 1000 := by rw [mkS_size, ← hq]; exact hs _ (List.getElem_mem hi3)
   have hqc : chkN q = 0 := hpre q (by
    have : l[i - 1]? = (l.take i)[i - 1]? := by rw [List.getElem?_take, if_pos (by omega)]
    rw [hqi] at this
    exact List.mem_of_getElem? this.symm)
   have hr2 : riseF none l = (decide (cmpP (parts q) (parts p) < 0) && riseF (some p) (l.drop (i + 1))) := by
    rw [hr]
    show (decide (chkN p = 0) && ((decide ((cmpN q p).2 = 0) && decide ((cmpN q p).1 < 0)) && riseF (some p) (l.drop (i + 1)))) = _
    rw [cmpN_ok (chkN_zero.1 hqc) (chkN_zero.1 hc), decide_eq_true hc]; simp
   cases hcp : decide (cmpP (parts q) (parts p) < 0)
   ·rw [hcp] at hr2
    refine Rgf (jn6 @e0 @e7 @h0' @hwm @hlt2 @hge2) (fun E K hE hK => ?_)
    refine Us (rCheck_ok (mkS p) hps _ _) body_113 ?_
    refine Evf (jn2 @mkS_list (jn7 @hc @e0 @e7 @h0' @hwm @hlt2 @hge2)) ?_
    refine ⟨by omega, ?_⟩
    refine Us (rLess_ok (mkS q) (mkS p) hqs hps _ _) body_126 ?_
    refine Evf (jn2 @mkS_list @hcp) ?_
    refine hK _ _ _ ?_; clear hE hK K E
    refine Bt ?_
    refine Rk ?_
    refine AWP.ret ?_
    refine Ev ?_
    exact fin _ _ false (by exact Er) (by rw [hr2]; rfl)
   ·rw [hcp, Bool.true_and] at hr2
    refine Rgf (jn6 @e0 @e7 @h0' @hwm @hlt2 @hge2) (fun E K hE hK => ?_)
    refine Us (rCheck_ok (mkS p) hps _ _) body_113 ?_
    refine Evf (jn2 @mkS_list (jn7 @hc @e0 @e7 @h0' @hwm @hlt2 @hge2)) ?_
    refine ⟨by omega, ?_⟩
    refine Us (rLess_ok (mkS q) (mkS p) hqs hps _ _) body_126 ?_
    refine Evf (jn2 @mkS_list @hcp) ?_
    refine hK _ _ _ ?_; clear hE hK K E
    refine Bf ?_
    refine AWP.skip ?_
    refine Ev ?_
    refine Raf (jn2 @e7 @hw1) (fun E K hE hK => ?_); refine hK _ _ _ ?_; clear hE hK K E
    refine ⟨rfl, _, ?_, i + 1, by omega, rfl, rfl, by exact Ecf @e0, by exact Ecf @e5, by exact Ecf @e6, by exact Er, ?_, hpre2 hc⟩
    ·omega
    ·rw [hr2, if_neg (by omega), Nat.add_sub_cancel, hpi]
 ·refine Bff @hlt ?_
  refine AWP.exit ?_
  refine Ev ?_
  have hil : i = l.length := by omega
  refine Rk ?_
  refine AWP.ret ?_
  refine fin _ _ true (by exact Er) ?_
  rw [hr, hil, List.drop_length]
  cases (if l.length = 0 then none else l[l.length - 1]?) <;> rfl
theorem rFolders_ok (rd : List S) (hl : rd.length ≤ 1000000) (hs : ∀ p ∈ rd, p.length ≤ 1000) (h : Heap) (b : Nat) : ACalls Tryz.prog 174 [ListV rd] h b 0 (fun r h' => r = BoolV (riseF none (dirsX rd)) ∧ h' = h) := by
 refine ACalls.enter Tryz.func174 rfl (by simp [Tryz.ntmps174]) (fun ι w hn H => ?_)
 have fin : ∀ (t : Nat → AV) (hh : Heap) (n : Nat) (v : Bool), t 2 = BoolV v → (∀ id, id < b → hh id = h id) → v = riseF none (dirsX rd) → Am.Ends Tryz.prog ⟨Tryz.f174.ntmps, b, ι, h, w, x0⟩ Tryz.f174 0 (fun r h' => r = BoolV (riseF none (dirsX rd)) ∧ h' = h) ⟨t, hh, n⟩ := by
  intro t hh n v ht ho hv
  exact Ends.pure hn H ho (r0 := BoolV v) (by rw [show Tryz.f174.results.toList = [.tmp 2] from rfl]; exact Ecf @ht) (.v _) ⟨by rw [hv], rfl⟩
 refine Rk ?_
 refine AWP.seq ?_
 match rd with
 | [] =>
   have h0 : ¬ (0 : Int) < ((0 : Nat) : Int) := by decide
   refine Rkf @h0 ?_
   refine Bs ?_
   refine Rg (fun E K hE hK => ?_)
   refine Us (rRise_ok [] (by simp) (by simp) _ _) body_173 ?_
   refine hK _ _ _ ?_; clear hE hK K E
   refine AWP.ret ?_
   exact fin _ _ _ _ (by exact Er) (fun _ _ => rfl) rfl
 | p :: ds =>
   have h0 : (0 : Int) < ((ds.length + 1 : Nat) : Int) := by omega
   have hge : ((p :: ds).map encS).getD 0 [] = [.v (.string (mkS p))] := rfl
   refine Rgf @h0 (fun E K hE hK => ?_)
   refine ⟨by decide, ?_⟩
   have hge : (encS p :: List.map encS ds).getD (Int.toNat 0) [] = [.v (.string (mkS p))] := rfl
   by_cases hp : p = []
   ·subst hp
    refine Evf (jn3 @hge @mkS_list @toL0) ?_
    refine hK _ _ _ ?_; clear hE hK K E
    refine Bt ?_
    have hsl : List.take (ds.length + 1 - Int.toNat 1) (List.drop (Int.toNat 1) (encS [] :: List.map encS ds)) = List.map encS ds := by
     show List.take (ds.length + 1 - 1) (List.map encS ds) = _
     rw [Nat.add_sub_cancel, List.take_of_length_le (by simp)]
    refine Rgf @hsl (fun E K hE hK => ?_)
    refine ⟨⟨by decide, by omega⟩, ?_⟩
    refine Us (rRise_ok ds (by simp at hl; omega) (fun x hx => hs x (by simp [hx])) _ _) body_173 ?_
    refine hK _ _ _ ?_; clear hE hK K E
    refine AWP.ret ?_
    refine Ev ?_
    exact fin _ _ _ _ (by exact Er) (fun _ _ => rfl) rfl
   ·refine Evf (jn4 @hge @mkS_list @toL0 @hp) ?_
    refine hK _ _ _ ?_; clear hE hK K E
    refine Bs ?_
    have hdx : dirsX (p :: ds) = p :: ds := by
     cases p with
     | nil => exact absurd rfl hp
     | cons c p => rfl
    refine Rg (fun E K hE hK => ?_)
    refine Us (rRise_ok (p :: ds) hl hs _ _) body_173 ?_
    refine hK _ _ _ ?_; clear hE hK K E
    refine AWP.ret ?_
    exact fin _ _ _ _ (by exact Er) (fun _ _ => rfl) (by rw [hdx])
theorem rMay_ok (rn rd : List S) (hn1 : rn.length ≤ 1000000) (hd1 : rd.length ≤ 1000000) (hs1 : ∀ p ∈ rn, p.length ≤ 1000) (hs2 : ∀ p ∈ rd, p.length ≤ 1000) (h : Heap) (b : Nat) : ACalls Tryz.prog 124 [ReadsV rn rd] h b 0 (fun r h' => r = IntV (mayX rn rd) ∧ h' = h) := by
 refine ACalls.enter Tryz.func124 rfl (by simp [Tryz.ntmps124]) (fun ι w hn H => ?_)
 have fin : ∀ (t : Nat → AV) (hh : Heap) (n : Nat) (v : Int), t 2 = IntV v → (∀ id, id < b → hh id = h id) → v = mayX rn rd → Am.Ends Tryz.prog ⟨Tryz.f124.ntmps, b, ι, h, w, x0⟩ Tryz.f124 0 (fun r h' => r = IntV (mayX rn rd) ∧ h' = h) ⟨t, hh, n⟩ := by
  intro t hh n v ht ho hv
  exact Ends.pure hn H ho (r0 := IntV v) (by rw [show Tryz.f124.results.toList = [.tmp 2] from rfl]; exact Ecf @ht) (.v _) ⟨by rw [hv], rfl⟩
 have hdl : (dirsX rd).length ≤ rd.length := by
  match rd with
  | [] => simp [dirsX]
  | [] :: ds => simp [dirsX]
  | (_ :: _) :: ds => simp [dirsX]
 have bad : ¬ (rd.length ≤ 1024 ∧ (riseF none rn && decide (rn.length ≤ 1024)) = true ∧ (riseF none (dirsX rd) && decide ((dirsX rd).length ≤ 1024)) = true) → 1 = mayX rn rd := fun e => by unfold mayX risesX; rw [if_neg e]
 have bnd : (rn.map encS).length = rn.length := List.length_map _
 have bnd2 : (rd.map encS).length = rd.length := List.length_map _
 refine Rk ?_
 refine AWP.seq ?_
 by_cases c1 : (1024 : Int) < rn.length
 ·refine Rkf (jn2 @bnd @c1) ?_
  refine Bt ?_
  refine Rk ?_
  refine AWP.ret ?_
  refine Ev ?_
  exact fin _ _ _ 1 (by exact Er) Ou (bad (fun e => by have := e.2.1; rw [decide_eq_false (by omega)] at this; simp at this))
 by_cases c2 : (1024 : Int) < rd.length
 ·refine Rkf (jn4 @bnd @bnd2 @c1 @c2) ?_
  refine Bt ?_
  refine Rk ?_
  refine AWP.ret ?_
  refine Ev ?_
  exact fin _ _ _ 1 (by exact Er) Ou (bad (fun e => by omega))
 cases c3 : riseF none rn
 ·refine Rgf (jn4 @bnd @bnd2 @c1 @c2) (fun E K hE hK => ?_)
  refine Us (rRise_ok rn hn1 hs1 _ _) body_173 ?_
  refine Evf @c3 ?_
  refine hK _ _ _ ?_; clear hE hK K E
  refine Bt ?_
  refine Rk ?_
  refine AWP.ret ?_
  refine Ev ?_
  exact fin _ _ _ 1 (by exact Er) Ou (bad (fun e => by have := e.2.1; rw [c3] at this; simp at this))
 cases c4 : riseF none (dirsX rd)
 ·refine Rgf (jn4 @bnd @bnd2 @c1 @c2) (fun E K hE hK => ?_)
  refine Us (rRise_ok rn hn1 hs1 _ _) body_173 ?_
  refine Evf @c3 ?_
  refine Us (rFolders_ok rd hd1 hs2 _ _) body_174 ?_
  refine Evf @c4 ?_
  refine hK _ _ _ ?_; clear hE hK K E
  refine Bt ?_
  refine Rk ?_
  refine AWP.ret ?_
  refine Ev ?_
  exact fin _ _ _ 1 (by exact Er) Ou (bad (fun e => by have := e.2.2; rw [c4] at this; simp at this))
 ·refine Rgf (jn4 @bnd @bnd2 @c1 @c2) (fun E K hE hK => ?_)
  refine Us (rRise_ok rn hn1 hs1 _ _) body_173 ?_
  refine Evf @c3 ?_
  refine Us (rFolders_ok rd hd1 hs2 _ _) body_174 ?_
  refine Evf @c4 ?_
  refine hK _ _ _ ?_; clear hE hK K E
  refine Bs ?_
  refine Rk ?_
  refine AWP.ret ?_
  refine fin _ _ _ 0 (by exact Er) Ou ?_
  unfold mayX risesX
  rw [c3, c4, decide_eq_true (show rn.length ≤ 1024 by omega), decide_eq_true (show (dirsX rd).length ≤ 1024 by omega), if_pos ⟨by omega, rfl, rfl⟩]
theorem rMayF_ok (f : Fl) (hs : f.name.length ≤ 1000) (h : Heap) (b : Nat) : ACalls Tryz.prog 172 [FlV f] h b 0 (fun r h' => r = BoolV (mayF f) ∧ h' = h) := by
 refine ACalls.enter Tryz.func172 rfl (by simp [Tryz.ntmps172]) (fun ι w hn H => ?_)
 have hms : (mkS f.name).size ≤ 1000 := by rw [mkS_size]; exact hs
 have fin : ∀ (t : Nat → AV) (hh : Heap) (n : Nat) (v : Bool), t 2 = BoolV v → (∀ id, id < b → hh id = h id) → v = mayF f → Am.Ends Tryz.prog ⟨Tryz.f172.ntmps, b, ι, h, w, x0⟩ Tryz.f172 0 (fun r h' => r = BoolV (mayF f) ∧ h' = h) ⟨t, hh, n⟩ := by
  intro t hh n v ht ho hv
  exact Ends.pure hn H ho (r0 := BoolV v) (by rw [show Tryz.f172.results.toList = [.tmp 2] from rfl]; exact Ecf @ht) (.v _) ⟨by rw [hv], rfl⟩
 refine Rk ?_
 by_cases c0 : chkN f.name = 0
 case neg =>
  refine Rg (fun E K hE hK => ?_)
  refine Us (rCheck_ok (mkS f.name) hms _ _) body_113 ?_
  refine Evf (jn2 @mkS_list @c0) ?_
  refine hK _ _ _ ?_; clear hE hK K E
  refine AWP.ret ?_
  exact fin _ _ _ false (by exact Er) Ou (by unfold mayF; simp [c0])
 by_cases c1 : 0 ≤ f.blk
 case neg =>
  refine Rg (fun E K hE hK => ?_)
  refine Us (rCheck_ok (mkS f.name) hms _ _) body_113 ?_
  refine Evf (jn3 @mkS_list @c0 @c1) ?_
  refine hK _ _ _ ?_; clear hE hK K E
  refine AWP.ret ?_
  exact fin _ _ _ false (by exact Er) Ou (by unfold mayF; simp [c1])
 by_cases c2 : f.blk ≤ 8192
 case neg =>
  refine Rg (fun E K hE hK => ?_)
  refine Us (rCheck_ok (mkS f.name) hms _ _) body_113 ?_
  refine Evf (jn4 @mkS_list @c0 @c1 @c2) ?_
  refine hK _ _ _ ?_; clear hE hK K E
  refine AWP.ret ?_
  exact fin _ _ _ false (by exact Er) Ou (by unfold mayF; simp [c2])
 by_cases c3 : 0 ≤ f.frm
 case neg =>
  refine Rg (fun E K hE hK => ?_)
  refine Us (rCheck_ok (mkS f.name) hms _ _) body_113 ?_
  refine Evf (jn5 @mkS_list @c0 @c1 @c2 @c3) ?_
  refine hK _ _ _ ?_; clear hE hK K E
  refine AWP.ret ?_
  exact fin _ _ _ false (by exact Er) Ou (by unfold mayF; simp [c3])
 by_cases c4 : f.frm ≤ 65536
 case neg =>
  refine Rg (fun E K hE hK => ?_)
  refine Us (rCheck_ok (mkS f.name) hms _ _) body_113 ?_
  refine Evf (jn6 @mkS_list @c0 @c1 @c2 @c3 @c4) ?_
  refine hK _ _ _ ?_; clear hE hK K E
  refine AWP.ret ?_
  exact fin _ _ _ false (by exact Er) Ou (by unfold mayF; simp [c4])
 by_cases c5 : 0 ≤ f.len
 case neg =>
  refine Rg (fun E K hE hK => ?_)
  refine Us (rCheck_ok (mkS f.name) hms _ _) body_113 ?_
  refine Evf (jn7 @mkS_list @c0 @c1 @c2 @c3 @c4 @c5) ?_
  refine hK _ _ _ ?_; clear hE hK K E
  refine AWP.ret ?_
  exact fin _ _ _ false (by exact Er) Ou (by unfold mayF; simp [c5])
 have hw : IntKind.i64.wrap (65536 - f.frm) = 65536 - f.frm := wrap_i64 (by omega) (by omega)
 by_cases c6 : f.len ≤ 65536 - f.frm
 case neg =>
  refine Rg (fun E K hE hK => ?_)
  refine Us (rCheck_ok (mkS f.name) hms _ _) body_113 ?_
  refine Evf (jn3 @mkS_list @c0 (jn7 @c1 @c2 @c3 @c4 @c5 @c6 @hw)) ?_
  refine hK _ _ _ ?_; clear hE hK K E
  refine AWP.ret ?_
  exact fin _ _ _ false (by exact Er) Ou (by unfold mayF; simp [c6])
 refine Rg (fun E K hE hK => ?_)
 refine Us (rCheck_ok (mkS f.name) hms _ _) body_113 ?_
 refine Evf (jn3 @mkS_list @c0 (jn7 @c1 @c2 @c3 @c4 @c5 @c6 @hw)) ?_
 refine hK _ _ _ ?_; clear hE hK K E
 refine AWP.ret ?_
 exact fin _ _ _ true (by exact Er) Ou (by unfold mayF; simp [c0, c1, c2, c3, c4, c5, c6])
def rtCkI (l : List Fl) (h : Heap) (b i : Nat) (st : St) : Prop :=
 (∀ id, id < b → st.h id = h id) ∧ st.t 0 = FlsV l ∧ st.t 8 = FlsV l ∧ st.t 9 = IntV l.length ∧ st.t 10 = IntV (i : Nat) ∧ tabF none l = tabF (prevN l i) (l.drop i) ∧ ∀ f ∈ l.take i, mayF f = true
theorem rCheckT_ok (l : List Fl) (hl : l.length ≤ 1000000) (hs : ∀ f ∈ l, f.name.length ≤ 1000) (h : Heap) (b : Nat) : ACalls Tryz.prog 123 [FlsV l] h b 0 (fun r h' => r = IntV (checkT l) ∧ h' = h) := by
 refine ACalls.enter Tryz.func123 rfl (by simp [Tryz.ntmps123]) (fun ι w hn H => ?_)
 have hlow := H.lowCells
 have hlm : (l.map encF).length = l.length := List.length_map _
 have fin : ∀ (t : Nat → AV) (hh : Heap) (n : Nat) (v : Int), t 2 = IntV v → (∀ id, id < b → hh id = h id) → v = checkT l → Am.Ends Tryz.prog ⟨Tryz.f123.ntmps, b, ι, h, w, x0⟩ Tryz.f123 0 (fun r h' => r = IntV (checkT l) ∧ h' = h) ⟨t, hh, n⟩ := by
  intro t hh n v ht ho hv
  exact Ends.pure hn H ho (r0 := IntV v) (by rw [show Tryz.f123.results.toList = [.tmp 2] from rfl]; exact Ecf @ht) (.v _) ⟨by rw [hv], rfl⟩
 refine Rk ?_
 refine AWP.seq ?_
 by_cases c0 : (256 : Int) < l.length
 ·refine Rkf (jn2 @hlm @c0) ?_
  refine Bt ?_
  refine Rk ?_
  refine AWP.ret ?_
  refine Ev ?_
  exact fin _ _ _ 1 (by exact Er) Ou (by unfold checkT; rw [if_pos (by omega)])
 have hcx : checkT l = if tabF none l = true then 0 else 1 := by unfold checkT; rw [if_neg (by omega)]
 refine Rkf (jn2 @hlm @c0) ?_
 refine Bs ?_
 refine AWP.seq ?_
 refine Rkf @hlm ?_
 refine AWP.block ?_
 refine AWP.loopM 0 (fun m st => ∃ i, i ≤ l.length ∧ m = l.length - i ∧ rtCkI l h b i st) l.length rfl ⟨0, Nat.zero_le _, rfl, Ou, by exact Er, by exact Er, by exact Er, by exact Er, rfl, by simp⟩ ?_
 rintro m ⟨t, hh, n⟩ ⟨i, hi, rfl, ho, e0, e8, e9, e10, hc, hmay⟩ hn1
 simp only at ho e0 e8 e9 e10 hn1
 subst hn1
 refine Rkf (jn2 @e9 @e10) ?_
 refine AWP.seq ?_
 by_cases hlt : (i : Int) < l.length
 ·have hw1 : IntKind.i64.wrap ((i : Int) + 1) = ((i + 1 : Nat) : Int) := by rw [wrap_i64 (by omega) (by omega)]; rfl
  have hi2 : i < l.length := by omega
  have hge := encF_getD l i hi2
  obtain ⟨f, hf⟩ : ∃ f, l[i] = f := ⟨_, rfl⟩
  have hdr : l.drop i = f :: l.drop (i + 1) := by rw [List.drop_eq_getElem_cons hi2, hf]
  have hpn : prevN l (i + 1) = some f.name := by unfold prevN; rw [if_neg (by omega), Nat.add_sub_cancel, List.getElem?_eq_getElem hi2, hf]; rfl
  rw [hf] at hge
  have hfs : f.name.length ≤ 1000 := hs f (by rw [← hf]; exact List.getElem_mem hi2)
  have hfs2 : (mkS f.name).size ≤ 1000 := by rw [mkS_size]; exact hfs
  have hc2 : tabF none l = (mayF f && (aheadF (prevN l i) f.name && tabF (some f.name) (l.drop (i + 1)))) := by rw [hc, hdr]; rfl
  have hnext : mayF f = true → aheadF (prevN l i) f.name = true → tabF none l = tabF (prevN l (i + 1)) (l.drop (i + 1)) := by
   intro g1 g2; rw [hc2, g1, g2, hpn]; rfl
  have hmay2 : mayF f = true → ∀ x ∈ l.take (i + 1), mayF x = true := by
   intro g x hx
   rw [List.take_add_one, List.getElem?_eq_getElem hi2, hf] at hx
   rcases List.mem_append.1 hx with hx | hx
   ·exact hmay x hx
   ·simp at hx; subst hx; exact g
  have bad : tabF none l = false → 1 = checkT l := fun e => by rw [hcx, e]; rfl
  refine Btf @hlt ?_
  refine AWP.skip ?_
  refine Ev ?_
  refine AWP.seq ?_
  refine AWP.block ?_
  refine Rgf (jn5 @e8 @e10 @hlm @hlt @hge) (fun E K hE hK => ?_)
  refine ⟨by omega, ?_⟩
  refine hK _ _ _ ?_; clear hE hK K E
  cases c1 : mayF f
  ·refine AWP.seqRegDG [] [] [] mixed (drawF_ok (by kernel_rfl)) (by kernel_rfl) (fun K hK => ?_); simp -implicitDefEqProofs only [go_sem, ↓reduceIte, Nat.reduceEqDiff, Nat.reduceAdd, Nat.reduceLT, Nat.reduceLeDiff, reduceCtorEq, Int.toNat_natCast, decide_true]
   refine Ud (rMayF_ok f hfs _ _) body_172 ?_
   try (refine Evf @c1 ?_)
   repeat (first | (refine Gd 18 ?_) | (refine Gd 21 ?_) | (refine ⟨by omega, ?_⟩))
   refine hK _ _ _ ?_; clear hK K
   refine Bt ?_
   refine Rk ?_
   refine AWP.ret ?_
   refine Ev ?_
   exact fin _ _ _ 1 (by exact Er) (Ouf @ho) (bad (by rw [hc2, c1]; rfl))
  by_cases h0 : i = 0
  ·have h0' : ¬ (0 : Int) < i := by omega
   refine AWP.seqRegDG [] [] [] mixed (drawF_ok (by kernel_rfl)) (by kernel_rfl) (fun K hK => ?_); simp -implicitDefEqProofs only [go_sem, ↓reduceIte, Nat.reduceEqDiff, Nat.reduceAdd, Nat.reduceLT, Nat.reduceLeDiff, reduceCtorEq, Int.toNat_natCast, h0']
   refine Ud (rMayF_ok f hfs _ _) body_172 ?_
   try (refine Evf @c1 ?_)
   repeat (first | (refine Gdf 18 @h0' ?_) | (refine Gdf 21 @h0' ?_) | (refine ⟨by omega, ?_⟩))
   refine hK _ _ _ ?_; clear hK K
   refine Bf ?_
   refine AWP.skip ?_
   refine Ev ?_
   refine Raf (jn2 @e10 @hw1) (fun E K hE hK => ?_); refine hK _ _ _ ?_; clear hE hK K E
   exact ⟨l.length - (i + 1), by omega, i + 1, by omega, rfl, cutH_outer (Nat.le_refl _) (Ouf @ho) hlow, by exact Ecf @e0, by exact Ecf @e8, by exact Ecf @e9, by exact Er, hnext c1 (by unfold prevN; rw [if_pos h0]; rfl), hmay2 c1⟩
  have h0' : (0 : Int) < i := by omega
  have hi3 : i - 1 < l.length := by omega
  have hge2 := encF_getD l (i - 1) hi3
  have hwm : IntKind.i64.wrap ((i : Int) - 1) = ((i - 1 : Nat) : Int) := by rw [wrap_i64 (by omega) (by omega)]; omega
  have hlt2 : ((i - 1 : Nat) : Int) < l.length := by omega
  obtain ⟨g, hg⟩ : ∃ g, l[i - 1] = g := ⟨_, rfl⟩
  have hpi : prevN l i = some g.name := by unfold prevN; rw [if_neg h0, List.getElem?_eq_getElem hi3, hg]; rfl
  rw [hg] at hge2
  have hgs : (mkS g.name).size ≤ 1000 := by rw [mkS_size, ← hg]; exact hs _ (List.getElem_mem hi3)
  have hgm : mayF g = true := hmay g (by
   have : l[i - 1]? = (l.take i)[i - 1]? := by rw [List.getElem?_take, if_pos (by omega)]
   rw [List.getElem?_eq_getElem hi3, hg] at this
   exact List.mem_of_getElem? this.symm)
  by_cases c3 : 0 ≤ cK g.name f.name
  ·have hcm2 : decide (cmpP (parts g.name) (parts f.name) < 0) = false := decide_eq_false (show ¬ cK g.name f.name < 0 by omega)
   have hcm := hcm2
   refine AWP.seqRegDG [] [] [] mixed (drawF_ok (by kernel_rfl)) (by kernel_rfl) (fun K hK => ?_); simp -implicitDefEqProofs only [go_sem, ↓reduceIte, Nat.reduceEqDiff, Nat.reduceAdd, Nat.reduceLT, Nat.reduceLeDiff, reduceCtorEq, Int.toNat_natCast, h0', e0, hwm, hlm, hlt2, hge2]
   refine Ud (rMayF_ok f hfs _ _) body_172 ?_
   try (refine Evf @c1 ?_)
   repeat (first | (refine Gdf 18 (jn6 @h0' @e0 @hwm @hlm @hlt2 @hge2) ?_) | (refine Gdf 21 (jn6 @h0' @e0 @hwm @hlm @hlt2 @hge2) ?_) | (refine ⟨by omega, ?_⟩))
   refine Ud (rLess_ok (mkS g.name) (mkS f.name) hgs hfs2 _ _) body_126 ?_
   try (refine Evf (jn3 @mkS_list @hcm @hcm2) ?_)
   repeat (first | (refine Gdf 18 (jn6 @h0' @e0 @hwm @hlm @hlt2 @hge2) ?_) | (refine Gdf 21 (jn6 @h0' @e0 @hwm @hlm @hlt2 @hge2) ?_) | (refine ⟨by omega, ?_⟩))
   refine hK _ _ _ ?_; clear hK K
   refine Bt ?_
   refine Rk ?_
   refine AWP.ret ?_
   refine Ev ?_
   exact fin _ _ _ 1 (by exact Er) (Ouf @ho) (bad (by rw [hc2, hpi]; show (mayF f && (decide (cK g.name f.name < 0) && _)) = false; rw [decide_eq_false (show ¬ cK g.name f.name < 0 by omega)]; simp))
  ·have hcm2 : decide (cmpP (parts g.name) (parts f.name) < 0) = true := decide_eq_true (show cK g.name f.name < 0 by omega)
   have hcm := hcm2
   refine AWP.seqRegDG [] [] [] mixed (drawF_ok (by kernel_rfl)) (by kernel_rfl) (fun K hK => ?_); simp -implicitDefEqProofs only [go_sem, ↓reduceIte, Nat.reduceEqDiff, Nat.reduceAdd, Nat.reduceLT, Nat.reduceLeDiff, reduceCtorEq, Int.toNat_natCast, h0', e0, hwm, hlm, hlt2, hge2]
   refine Ud (rMayF_ok f hfs _ _) body_172 ?_
   try (refine Evf @c1 ?_)
   repeat (first | (refine Gdf 18 (jn6 @h0' @e0 @hwm @hlm @hlt2 @hge2) ?_) | (refine Gdf 21 (jn6 @h0' @e0 @hwm @hlm @hlt2 @hge2) ?_) | (refine ⟨by omega, ?_⟩))
   refine Ud (rLess_ok (mkS g.name) (mkS f.name) hgs hfs2 _ _) body_126 ?_
   try (refine Evf (jn3 @mkS_list @hcm @hcm2) ?_)
   repeat (first | (refine Gdf 18 (jn6 @h0' @e0 @hwm @hlm @hlt2 @hge2) ?_) | (refine Gdf 21 (jn6 @h0' @e0 @hwm @hlm @hlt2 @hge2) ?_) | (refine ⟨by omega, ?_⟩))
   refine hK _ _ _ ?_; clear hK K
   refine Bf ?_
   refine AWP.skip ?_
   refine Ev ?_
   refine Raf (jn2 @e10 @hw1) (fun E K hE hK => ?_); refine hK _ _ _ ?_; clear hE hK K E
   exact ⟨l.length - (i + 1), by omega, i + 1, by omega, rfl, cutH_outer (Nat.le_refl _) (Ouf @ho) hlow, by exact Ecf @e0, by exact Ecf @e8, by exact Ecf @e9, by exact Er, hnext c1 (by rw [hpi]; unfold aheadF; simp only [decide_eq_true_eq]; omega), hmay2 c1⟩
 ·refine Bff @hlt ?_
  refine AWP.exit ?_
  refine Ev ?_
  refine Rk ?_
  refine AWP.ret ?_
  refine fin _ _ _ 0 (by exact Er) ho ?_
  have : i = l.length := by omega
  subst this
  rw [hcx, hc, List.drop_length]
  cases prevN l l.length <;> rfl
structure RfS (s : Sg) : Prop where
 t : s.t.length ≤ 1000
 tn : ∀ f ∈ s.t, f.name.length ≤ 1000
 ed : s.ed.length ≤ 1000
 en : ∀ x ∈ s.ed, x.name.length ≤ 1000
 data : ∀ x ∈ s.ed, x.data.length ≤ 1000
 rk : ∀ x ∈ s.ed, x.rank < 18446744073709551616
 nm : s.names.length ≤ 1000
 nn : ∀ p ∈ s.names, p.length ≤ 1000
 dr : s.dirs.length ≤ 1000
 dn : ∀ p ∈ s.dirs, p.length ≤ 1000
def zeroFl : Fl := ⟨[], 0, 0, 0, 0, 0⟩
def fileO (t : List Fl) (p : S) : Fl × Bool := match fileF t p with
 | some f => (f, true)
 | none => (zeroFl, false)
theorem fileF_take {t : List Fl} {p : S} {i : Nat} (hi : i < t.length) (h : ∀ f ∈ t.take i, ¬ f.name = p) (e : t[i].name = p) : fileF t p = some t[i] := by
 unfold fileF
 have hs : t = t.take i ++ t[i] :: t.drop (i + 1) := by rw [← List.drop_eq_getElem_cons hi, List.take_append_drop]
 conv => lhs; arg 2; rw [hs]
 rw [List.find?_append, List.find?_eq_none.2 (fun f hf => by simpa using h f hf), Option.none_or, List.find?_cons_of_pos (by simpa using e)]
theorem rfile_ok (l : List Fl) (p : S) (hl : l.length ≤ 1000000) (h : Heap) (b : Nat) : ACalls Tryz.prog 114 [FlsV l, StrV p] h b 0 (fun r h' => r = .tup [FlV (fileO l p).1, BoolV (fileO l p).2] ∧ h' = h) := by
 refine ACalls.enter Tryz.func114 rfl (by simp [Tryz.ntmps114]) (fun ι w hn H => ?_)
 have hlm : (l.map encF).length = l.length := List.length_map _
 have hlow := H.lowCells
 have fin : ∀ (tt : Nat → AV) (hh : Heap) (n : Nat) (f : Fl) (v : Bool), tt 4 = .one (.ptr b 0 0) → hh b = some ⟨0, (encF f).map .p⟩ → tt 5 = BoolV v → (∀ id, id < b → hh id = h id) → (f, v) = fileO l p → Am.Ends Tryz.prog ⟨Tryz.f114.ntmps, b, ι, h, w, x0⟩ Tryz.f114 0 (fun r h' => r = .tup [FlV (fileO l p).1, BoolV (fileO l p).2] ∧ h' = h) ⟨tt, hh, n⟩ := by
  intro tt hh n f v h4 hb h5 ho hv
  exact Ends.pure hn H ho (r0 := .tup [FlV f, BoolV v]) (by rw [show Tryz.f114.results.toList = [.cell 4 82, .tmp 5] from rfl]; (first | (simp -implicitDefEqProofs only [go_sem, ↓reduceIte, Nat.reduceEqDiff, Nat.reduceAdd, Nat.reduceLT, Nat.reduceLeDiff, reduceCtorEq, Int.toNat_natCast, h4, hb, h5, encF]; first | done | rfl) | rfl)) (frz_tup2 (frz_psS _) (.v _)) ⟨by rw [← hv], rfl⟩
 refine Rk ?_
 refine AWP.mid (fun st => (∀ id, id < b → st.h id = h id) ∧ st.t 4 = .one (.ptr b 0 0) ∧ (∃ c, st.h b = some ⟨0, (encF c).map .p⟩) ∧ ∀ f ∈ l, ¬ f.name = p) ?_ ?_
 ·refine Rkf @hlm ?_
  refine AWP.block ?_
  refine AWP.loopUp 1 l.length (fun i st => (∀ id, id < b → st.h id = h id) ∧ st.t 4 = .one (.ptr b 0 0) ∧ (∃ c, st.h b = some ⟨0, (encF c).map .p⟩) ∧ st.t 1 = StrV p ∧ st.t 8 = FlsV l ∧ st.t 9 = IntV l.length ∧ st.t 10 = IntV (i : Nat) ∧ ∀ f ∈ l.take i, ¬ f.name = p) 0 (Nat.zero_le _) rfl ⟨Ou, by exact Er, ⟨zeroFl, by exact Er⟩, by exact Er, by exact Er, by exact Er, by exact Er, by simp⟩ ?_
  rintro i ⟨t, hh, n⟩ hi ⟨ho, e4, ⟨c, hb⟩, e1, e8, e9, e10, hne⟩ hn1
  simp only at ho e4 hb e1 e8 e9 e10 hn1
  subst hn1
  refine Rkf (jn2 @e9 @e10) ?_
  refine AWP.seq ?_
  by_cases hlt : (i : Int) < l.length
  ·have hi2 : i < l.length := by omega
   have hw1 : IntKind.i64.wrap ((i : Int) + 1) = ((i + 1 : Nat) : Int) := by rw [wrap_i64 (by omega) (by omega)]; rfl
   have hge := encF_getD l i hi2
   have htk : l.take (i + 1) = l.take i ++ [l[i]] := by rw [List.take_add_one, List.getElem?_eq_getElem hi2]; rfl
   have hft : l[i].name = p → fileF l p = some l[i] := fileF_take hi2 hne
   obtain ⟨f, hf⟩ : ∃ f, l[i] = f := ⟨_, rfl⟩
   rw [hf] at hge htk hft
   refine Btf @hlt ?_
   refine AWP.skip ?_
   refine Ev ?_
   refine AWP.seq ?_
   refine AWP.block ?_
   refine AWP.seqReg (by kernel_rfl) (fun E K hE hK => ?_); simp -implicitDefEqProofs only [go_sem, ↓reduceIte, Nat.reduceEqDiff, Nat.reduceAdd, Nat.reduceLT, Nat.reduceLeDiff, reduceCtorEq, Int.toNat_natCast, e8, e10, hlm, hlt, hge, encF]
   refine ⟨by omega, ?_⟩
   refine hK _ _ _ ?_; clear hE hK K E
   by_cases cp : f.name = p
   ·have c' : (f.name = p) = True := eq_true cp
    refine Rkf (jn3 @e1 @mkS_list @c') ?_
    refine Bt ?_
    refine AWP.seqReg (by kernel_rfl) (fun E K hE hK => ?_); simp -implicitDefEqProofs only [go_sem, ↓reduceIte, Nat.reduceEqDiff, Nat.reduceAdd, Nat.reduceLT, Nat.reduceLeDiff, reduceCtorEq, Int.toNat_natCast, e4, hb, encF]; refine hK _ _ _ ?_; clear hE hK K E
    refine AWP.ret ?_
    refine Ev ?_
    exact fin _ _ _ f true (by exact Erf @e4) (by exact Er) (by exact Er) (Ouf @ho) (by unfold fileO; rw [hft cp])
   ·have c' : (f.name = p) = False := eq_false cp
    refine Rkf (jn3 @e1 @mkS_list @c') ?_
    refine Bf ?_
    refine AWP.skip ?_
    refine Ev ?_
    refine Raf (jn2 @e10 @hw1) (fun E K hE hK => ?_); refine hK _ _ _ ?_; clear hE hK K E
    exact ⟨(by decide : 1 ≤ 2), hi2, cutH_outer (Nat.le_add_right _ _) (Ouf @ho) hlow, by refine Evf @e4 ?_; exact cutV_ptr (Nat.lt_add_of_pos_right (by decide)), ⟨c, cutH_same (Nat.lt_add_of_pos_right (by decide)) (by exact Erf @hb) (show lowCs _ ((encF c).map Cell.p) = true from lowCs_p _ _)⟩, by exact Ecf @e1, by exact Ecf @e8, by exact Ecf @e9, by exact Er, by
     rw [htk]
     intro g hg
     rcases List.mem_append.1 hg with hg | hg
     ·exact hne g hg
     ·rw [List.mem_singleton.1 hg]; exact cp⟩
  ·have hie : i = l.length := by omega
   subst hie
   rw [List.take_length] at hne
   refine Bff @hlt ?_
   refine AWP.exit ?_
   refine Ev ?_
   exact ⟨ho, e4, ⟨c, hb⟩, hne⟩
 rintro ⟨t, hh, n⟩ ⟨ho, e4, ⟨c, hb⟩, hne⟩
 simp only at ho e4 hb
 refine AWP.seqReg (by kernel_rfl) (fun E K hE hK => ?_); simp -implicitDefEqProofs only [go_sem, ↓reduceIte, Nat.reduceEqDiff, Nat.reduceAdd, Nat.reduceLT, Nat.reduceLeDiff, reduceCtorEq, Int.toNat_natCast, e4, hb, encF]; refine hK _ _ _ ?_; clear hE hK K E
 refine AWP.ret ?_
 exact fin _ _ _ zeroFl false (by exact Erf @e4) (by exact Er) (by exact Er) (Ouf @ho) (by unfold fileO; rw [show fileF l p = none from List.find?_eq_none.2 (fun f hf => by simpa using hne f hf)])
theorem rmayS_ok (t : List Fl) (x : Ed) (ht : t.length ≤ 1000000) (hc : checkT t = 0) (hr : x.rank < 18446744073709551616) (hn1 : x.name.length ≤ 1000) (h : Heap) (b : Nat) : ACalls Tryz.prog 125 [FlsV t, EdV x] h b 0 (fun r h' => r = BoolV (mayE keyR t x) ∧ h' = h) := by
 refine ACalls.enter Tryz.func125 rfl (by simp [Tryz.ntmps125]) (fun ι w hn H => ?_)
 have hdl : (x.data.map encO).length = x.data.length := List.length_map _
 have fin : ∀ (tt : Nat → AV) (hh : Heap) (n : Nat) (v : Bool), tt 4 = BoolV v → (∀ id, id < b → hh id = h id) → v = mayE keyR t x → Am.Ends Tryz.prog ⟨Tryz.f125.ntmps, b, ι, h, w, x0⟩ Tryz.f125 0 (fun r h' => r = BoolV (mayE keyR t x) ∧ h' = h) ⟨tt, hh, n⟩ := by
  intro tt hh n v ht ho hv
  exact Ends.pure hn H ho (r0 := BoolV v) (by rw [show Tryz.f125.results.toList = [.tmp 4] from rfl]; exact Ecf @ht) (.v _) ⟨by rw [hv], rfl⟩
 have kc := rCheck_ok (mkS x.name) (by rw [mkS_size]; exact hn1)
 rw [show bl (mkS x.name) = x.name from rfl] at kc
 refine Rk ?_
 refine AWP.seq ?_
 by_cases c1 : chkN x.name = 0
 case neg =>
  have c1' : (chkN x.name = 0) = False := eq_false c1
  refine AWP.seqReg (by kernel_rfl) (fun E K hE hK => ?_); simp -implicitDefEqProofs only [go_sem, ↓reduceIte, Nat.reduceEqDiff, Nat.reduceAdd, Nat.reduceLT, Nat.reduceLeDiff, reduceCtorEq, Int.toNat_natCast, encEd]
  refine Us (kc _ _) body_113 ?_
  refine Evf @c1' ?_
  refine hK _ _ _ ?_; clear hE hK K E
  refine Bt ?_
  refine Rk ?_
  refine AWP.ret ?_
  refine Ev ?_
  exact fin _ _ _ false (by exact Er) Ou (by unfold mayE; rw [decide_eq_false c1]; rfl)
 have c1' : (chkN x.name = 0) = True := eq_true c1
 refine AWP.seqReg (by kernel_rfl) (fun E K hE hK => ?_); simp -implicitDefEqProofs only [go_sem, ↓reduceIte, Nat.reduceEqDiff, Nat.reduceAdd, Nat.reduceLT, Nat.reduceLeDiff, reduceCtorEq, Int.toNat_natCast, encEd]
 refine Us (kc _ _) body_113 ?_
 refine Evf @c1' ?_
 refine hK _ _ _ ?_; clear hE hK K E
 refine Bs ?_
 refine AWP.seq ?_
 cases hg : x.gone
 case true =>
  have hm : mayE keyR t x = (decide (keyR x.rank = keyR 0) && (decide (x.of = []) && decide (x.data = []))) := by unfold mayE; rw [decide_eq_true c1, hg, if_pos rfl]; rfl
  have hk0 := key0 hr
  refine Rkf @hg ?_
  refine Bt ?_
  have sb : ∀ v, decide (IntKind.i64.wrap (x.rank : Int) < 0) = v → ∀ h b, ACalls Tryz.prog 153 [.one (.p (.v (.float .f64 x.rank)))] h b 0 (fun r h' => r = BoolV v ∧ h' = h) := fun v e h b => by rw [← e]; exact signbit_ok x.rank h b
  cases v1 : FloatKind.f64.format.order x.rank 0 == some .eq
  ·refine Rkf @v1 ?_
   refine AWP.ret ?_
   refine Ev ?_
   exact fin _ _ _ false (by exact Er) Ou (by rw [hm, decide_eq_false (fun e => by rw [(hk0.1 e).1] at v1; cases v1)]; rfl)
  have v1' : FloatKind.f64.format.order x.rank 0 = some .eq := by simpa using v1
  cases v2 : decide (IntKind.i64.wrap (x.rank : Int) < 0)
  case true =>
   refine Rgf @v1 (fun E K hE hK => ?_)
   refine Us (sb _ v2 _ _) body_153 ?_
   refine hK _ _ _ ?_; clear hE hK K E
   refine AWP.ret ?_
   refine Ev ?_
   exact fin _ _ _ false (by exact Er) Ou (by rw [hm, decide_eq_false (fun e => (hk0.1 e).2 (by simpa using v2))]; rfl)
  have hk : keyR x.rank = keyR 0 := hk0.2 ⟨v1', by simpa using v2⟩
  by_cases c2 : x.of = []
  case neg =>
   have c2' : (x.of = []) = False := eq_false c2
   refine Rgf @v1 (fun E K hE hK => ?_)
   refine Us (sb _ v2 _ _) body_153 ?_
   refine Evf (jn2 @mkS_list @c2') ?_
   refine hK _ _ _ ?_; clear hE hK K E
   refine AWP.ret ?_
   refine Ev ?_
   exact fin _ _ _ false (by exact Er) Ou (by rw [hm, decide_eq_false c2]; simp)
  have c2' : (x.of = []) = True := eq_true c2
  by_cases c3 : (x.data.length : Int) = 0
  ·have c3' : ((x.data.length : Int) = 0) = True := eq_true c3
   refine Rgf @v1 (fun E K hE hK => ?_)
   refine Us (sb _ v2 _ _) body_153 ?_
   refine Evf (jn4 @mkS_list @c2' @hdl @c3') ?_
   refine hK _ _ _ ?_; clear hE hK K E
   refine AWP.ret ?_
   refine Ev ?_
   exact fin _ _ _ true (by exact Er) Ou (by rw [hm, decide_eq_true hk, decide_eq_true c2, decide_eq_true (List.eq_nil_of_length_eq_zero (by omega))]; rfl)
  ·have c3' : ((x.data.length : Int) = 0) = False := eq_false c3
   refine Rgf @v1 (fun E K hE hK => ?_)
   refine Us (sb _ v2 _ _) body_153 ?_
   refine Evf (jn4 @mkS_list @c2' @hdl @c3') ?_
   refine hK _ _ _ ?_; clear hE hK K E
   refine AWP.ret ?_
   refine Ev ?_
   exact fin _ _ _ false (by exact Er) Ou (by rw [hm, decide_eq_false (show ¬ x.data = [] from fun e => c3 (by rw [e]; rfl))]; simp)
 have hm : mayE keyR t x = (if x.of = [] then decide (x.data.length ≤ 65536) else (fileT t x.of).isSome && decide (x.data.length = 0)) := by unfold mayE; rw [decide_eq_true c1, hg, if_neg (by decide)]; rfl
 refine Rkf @hg ?_
 refine Bs ?_
 refine AWP.seq ?_
 by_cases c2 : x.of = []
 ·have c2' : (x.of = []) = True := eq_true c2
  refine Rkf (jn2 @mkS_list @c2') ?_
  refine Bt ?_
  by_cases c3 : (x.data.length : Int) ≤ 65536
  ·have c3' : ((x.data.length : Int) ≤ 65536) = True := eq_true c3
   refine Rkf (jn2 @hdl @c3') ?_
   refine AWP.ret ?_
   refine Ev ?_
   exact fin _ _ _ true (by exact Er) Ou (by rw [hm, if_pos c2]; exact (decide_eq_true (by omega)).symm)
  ·have c3' : ((x.data.length : Int) ≤ 65536) = False := eq_false c3
   refine Rkf (jn2 @hdl @c3') ?_
   refine AWP.ret ?_
   refine Ev ?_
   exact fin _ _ _ false (by exact Er) Ou (by rw [hm, if_pos c2]; exact (decide_eq_false (by omega)).symm)
 have c2' : (x.of = []) = False := eq_false c2
 rw [if_neg c2, fileT_eq hc] at hm
 refine Rkf (jn2 @mkS_list @c2') ?_
 refine Bs ?_
 have kf := rfile_ok t x.of ht
 cases hf : fileF t x.of with
 | none =>
   rw [hf] at hm
   rw [show fileO t x.of = (zeroFl, false) by unfold fileO; rw [hf]] at kf
   refine Rg (fun E K hE hK => ?_)
   refine Us (kf _ _) body_114 ?_
   refine hK _ _ _ ?_; clear hE hK K E
   refine Rk ?_
   refine AWP.ret ?_
   exact fin _ _ _ false (by exact Er) Ou (by rw [hm]; rfl)
 | some f =>
   rw [hf] at hm
   rw [show fileO t x.of = (f, true) by unfold fileO; rw [hf]] at kf
   by_cases c3 : (x.data.length : Int) = 0
   ·have c3' : ((x.data.length : Int) = 0) = True := eq_true c3
    refine Rg (fun E K hE hK => ?_)
    refine Us (kf _ _) body_114 ?_
    refine hK _ _ _ ?_; clear hE hK K E
    refine Rkf (jn2 @hdl @c3') ?_
    refine AWP.ret ?_
    exact fin _ _ _ true (by exact Er) Ou (by rw [hm, decide_eq_true (by omega)]; rfl)
   ·have c3' : ((x.data.length : Int) = 0) = False := eq_false c3
    refine Rg (fun E K hE hK => ?_)
    refine Us (kf _ _) body_114 ?_
    refine hK _ _ _ ?_; clear hE hK K E
    refine Rkf (jn2 @hdl @c3') ?_
    refine AWP.ret ?_
    exact fin _ _ _ false (by exact Er) Ou (by rw [hm, decide_eq_false (by omega)]; rfl)
theorem rCheckS_ok (s : Sg) (z : RfS s) (h : Heap) (b : Nat) : ACalls Tryz.prog 70 [SgV s] h b 0 (fun r h' => r = IntV (checkS keyR s) ∧ h' = h) := by
 refine ACalls.enter Tryz.func70 rfl (by simp [Tryz.ntmps70]) (fun ι w hn H => ?_)
 have hlow := H.lowCells
 have ht : s.t.length ≤ 1000000 := by have := z.t; omega
 have hl : s.ed.length ≤ 1000000 := by have := z.ed; omega
 have hn1 : s.names.length ≤ 1000000 := by have := z.nm; omega
 have hd1 : s.dirs.length ≤ 1000000 := by have := z.dr; omega
 have hlm : (s.ed.map encEd).length = s.ed.length := List.length_map _
 have fin : ∀ (t : Nat → AV) (hh : Heap) (n : Nat) (v : Int), t 2 = IntV v → (∀ id, id < b → hh id = h id) → v = checkS keyR s → Am.Ends Tryz.prog ⟨Tryz.f70.ntmps, b, ι, h, w, x0⟩ Tryz.f70 0 (fun r h' => r = IntV (checkS keyR s) ∧ h' = h) ⟨t, hh, n⟩ := by
  intro t hh n v ht ho hv
  exact Ends.pure hn H ho (r0 := IntV v) (by rw [show Tryz.f70.results.toList = [.tmp 2] from rfl]; exact Ecf @ht) (.v _) ⟨by rw [hv], rfl⟩
 refine Rk ?_
 refine AWP.seq ?_
 by_cases c0 : 1099511627776 < s.gen
 ·refine Rkf @c0 ?_
  refine Bt ?_
  refine Rk ?_
  refine AWP.ret ?_
  refine Ev ?_
  exact fin _ _ _ 1 (by exact Er) Ou (by unfold checkS; rw [if_pos (.inl c0)])
 by_cases c1 : checkT s.t = 0
 case neg =>
  have c1' : (checkT s.t = 0) = False := eq_false c1
  refine Rgf @c0 (fun E K hE hK => ?_)
  refine Us (rCheckT_ok s.t ht z.tn _ _) body_123 ?_
  refine Evf @c1' ?_
  refine hK _ _ _ ?_; clear hE hK K E
  refine Bt ?_
  refine Rk ?_
  refine AWP.ret ?_
  refine Ev ?_
  exact fin _ _ _ 1 (by exact Er) Ou (by unfold checkS; rw [if_pos (.inr (.inl c1))])
 have c1' : (checkT s.t = 0) = True := eq_true c1
 by_cases c2 : mayX s.names s.dirs = 0
 case neg =>
  have c2' : (mayX s.names s.dirs = 0) = False := eq_false c2
  refine Rgf @c0 (fun E K hE hK => ?_)
  refine Us (rCheckT_ok s.t ht z.tn _ _) body_123 ?_
  refine Evf @c1' ?_
  refine Us (rMay_ok s.names s.dirs hn1 hd1 z.nn z.dn _ _) body_124 ?_
  refine Evf @c2' ?_
  refine hK _ _ _ ?_; clear hE hK K E
  refine Bt ?_
  refine Rk ?_
  refine AWP.ret ?_
  refine Ev ?_
  exact fin _ _ _ 1 (by exact Er) Ou (by unfold checkS; rw [if_pos (.inr (.inr (.inl c2)))])
 have c2' : (mayX s.names s.dirs = 0) = True := eq_true c2
 by_cases c3 : (256 : Int) < s.ed.length
 ·refine Rgf @c0 (fun E K hE hK => ?_)
  refine Us (rCheckT_ok s.t ht z.tn _ _) body_123 ?_
  refine Evf @c1' ?_
  refine Us (rMay_ok s.names s.dirs hn1 hd1 z.nn z.dn _ _) body_124 ?_
  refine Evf (jn3 @c2' @hlm @c3) ?_
  refine hK _ _ _ ?_; clear hE hK K E
  refine Bt ?_
  refine Rk ?_
  refine AWP.ret ?_
  refine Ev ?_
  exact fin _ _ _ 1 (by exact Er) Ou (by unfold checkS; rw [if_pos (.inr (.inr (.inr (by omega))))])
 have hcx : checkS keyR s = if ckE keyR s.t none s.ed = true then 0 else 1 := by
  unfold checkS; rw [if_neg (by rintro (h | h | h | h); exact c0 h; exact h c1; exact h c2; omega)]
 refine Rgf @c0 (fun E K hE hK => ?_)
 refine Us (rCheckT_ok s.t ht z.tn _ _) body_123 ?_
 refine Evf @c1' ?_
 refine Us (rMay_ok s.names s.dirs hn1 hd1 z.nn z.dn _ _) body_124 ?_
 refine Evf (jn3 @c2' @hlm @c3) ?_
 refine hK _ _ _ ?_; clear hE hK K E
 refine Bs ?_
 refine AWP.seq ?_
 refine Rkf @hlm ?_
 refine AWP.block ?_
 refine AWP.loopM 1 (fun k st => ∃ i, i ≤ s.ed.length ∧ k = s.ed.length - i ∧ (∀ id, id < b → st.h id = h id) ∧ st.h b = some ⟨0, (encSg s).map .p⟩ ∧ st.t 1 = .one (.ptr b 0 0) ∧ st.t 27 = EdsV s.ed ∧ st.t 28 = IntV s.ed.length ∧ st.t 29 = IntV (i : Nat) ∧ ckE keyR s.t none s.ed = ckE keyR s.t (prevE s.ed i) (s.ed.drop i) ∧ ∀ x ∈ s.ed.take i, chkN x.name = 0) s.ed.length rfl ⟨0, Nat.zero_le _, rfl, Ou, by exact Er, by exact Er, by exact Er, by exact Er, by exact Er, rfl, by simp⟩ ?_
 rintro k ⟨t, hh, n⟩ ⟨i, hi, rfl, ho, hB, e1, e27, e28, e29, hc, hmay⟩ hn2
 simp only at ho hB e1 e27 e28 e29 hn2
 subst hn2
 refine Rkf (jn2 @e28 @e29) ?_
 refine AWP.seq ?_
 by_cases hlt : (i : Int) < s.ed.length
 ·have hw1 : IntKind.i64.wrap ((i : Int) + 1) = ((i + 1 : Nat) : Int) := by rw [wrap_i64 (by omega) (by omega)]; rfl
  have hi2 : i < s.ed.length := by omega
  have hge := encEd_getD s.ed i hi2
  obtain ⟨x, hx⟩ : ∃ x, s.ed[i] = x := ⟨_, rfl⟩
  have hxin : x ∈ s.ed := by rw [← hx]; exact List.getElem_mem hi2
  have hdr : s.ed.drop i = x :: s.ed.drop (i + 1) := by rw [List.drop_eq_getElem_cons hi2, hx]
  have hpn : prevE s.ed (i + 1) = some x.name := by unfold prevE; rw [if_neg (by omega), Nat.add_sub_cancel, List.getElem?_eq_getElem hi2, hx]; rfl
  rw [hx] at hge
  have hc2 : ckE keyR s.t none s.ed = (mayE keyR s.t x && ((match prevE s.ed i with | none => true | some p => decide (cmpF p x.name < 0)) && ckE keyR s.t (some x.name) (s.ed.drop (i + 1)))) := by rw [hc, hdr]; rfl
  have bad : ckE keyR s.t none s.ed = false → 1 = checkS keyR s := fun e => by rw [hcx, e]; rfl
  have hmay2 : mayE keyR s.t x = true → ∀ y ∈ s.ed.take (i + 1), chkN y.name = 0 := by
   intro g y hy
   rw [List.take_add_one, List.getElem?_eq_getElem hi2, hx] at hy
   rcases List.mem_append.1 hy with hy | hy
   ·exact hmay y hy
   ·simp at hy; subst hy
    unfold mayE at g
    simp only [Bool.and_eq_true, decide_eq_true_eq] at g
    exact g.1
  refine Btf @hlt ?_
  refine AWP.skip ?_
  refine Ev ?_
  refine AWP.seq ?_
  refine AWP.block ?_
  refine Rgf (jn5 @e27 @e29 @hlm @hlt @hge) (fun E K hE hK => ?_)
  refine ⟨by omega, ?_⟩
  refine hK _ _ _ ?_; clear hE hK K E
  cases c4 : mayE keyR s.t x
  ·refine AWP.seqRegDG [] [] [] mixed (drawF_ok (by kernel_rfl)) (by kernel_rfl) (fun K hK => ?_); simp -implicitDefEqProofs only [go_sem, ↓reduceIte, Nat.reduceEqDiff, Nat.reduceAdd, Nat.reduceLT, Nat.reduceLeDiff, reduceCtorEq, Int.toNat_natCast, e1, hB]
   refine Ud (rmayS_ok s.t x ht c1 (z.rk x hxin) (z.en x hxin) _ _) body_125 ?_
   try (refine Evf @c4 ?_)
   repeat (first | (refine Gd 39 ?_) | (refine Gd 42 ?_) | (refine ⟨by omega, ?_⟩))
   refine hK _ _ _ ?_; clear hK K
   refine Bt ?_
   refine Rk ?_
   refine AWP.ret ?_
   refine Ev ?_
   exact fin _ _ _ 1 (by exact Er) (Ouf @ho) (bad (by rw [hc2, c4]; rfl))
  by_cases h0 : i = 0
  ·have h0' : ¬ (0 : Int) < i := by omega
   refine AWP.seqRegDG [] [] [] mixed (drawF_ok (by kernel_rfl)) (by kernel_rfl) (fun K hK => ?_); simp -implicitDefEqProofs only [go_sem, ↓reduceIte, Nat.reduceEqDiff, Nat.reduceAdd, Nat.reduceLT, Nat.reduceLeDiff, reduceCtorEq, Int.toNat_natCast, e1, hB, h0']
   refine Ud (rmayS_ok s.t x ht c1 (z.rk x hxin) (z.en x hxin) _ _) body_125 ?_
   try (refine Evf @c4 ?_)
   repeat (first | (refine Gdf 39 (jn3 @h0' @e1 @hB) ?_) | (refine Gdf 42 (jn3 @h0' @e1 @hB) ?_) | (refine ⟨by omega, ?_⟩))
   refine hK _ _ _ ?_; clear hK K
   refine Bf ?_
   refine AWP.skip ?_
   refine Ev ?_
   refine Raf (jn2 @e29 @hw1) (fun E K hE hK => ?_); refine hK _ _ _ ?_; clear hE hK K E
   exact ⟨(by decide : 1 ≤ 2), s.ed.length - (i + 1), by omega, i + 1, by omega, rfl, cutH_outer (Nat.le_succ _) (Ouf @ho) hlow, cutH_same (Nat.lt_succ_self _) (by exact Erf @hB) (by simp [lowCs, lowC]), by refine Evf @e1 ?_; exact cutV_ptr (Nat.lt_succ_self _), by exact Ecf @e27, by exact Ecf @e28, by exact Er, by rw [hc2, c4, hpn]; unfold prevE; rw [if_pos h0]; rfl, hmay2 c4⟩
  have h0' : (0 : Int) < i := by omega
  have hi3 : i - 1 < s.ed.length := by omega
  have hge2 := encEd_getD s.ed (i - 1) hi3
  have hwm : IntKind.i64.wrap ((i : Int) - 1) = ((i - 1 : Nat) : Int) := by rw [wrap_i64 (by omega) (by omega)]; omega
  have hlt2 : ((i - 1 : Nat) : Int) < s.ed.length := by omega
  obtain ⟨g, hg⟩ : ∃ g, s.ed[i - 1] = g := ⟨_, rfl⟩
  have hpi : prevE s.ed i = some g.name := by unfold prevE; rw [if_neg h0, List.getElem?_eq_getElem hi3, hg]; rfl
  rw [hg] at hge2
  have hgm : chkN g.name = 0 := hmay g (by
   have : s.ed[i - 1]? = (s.ed.take i)[i - 1]? := by rw [List.getElem?_take, if_pos (by omega)]
   rw [List.getElem?_eq_getElem hi3, hg] at this
   exact List.mem_of_getElem? this.symm)
  have hxm : chkN x.name = 0 := hmay2 c4 x (by rw [List.take_add_one, List.getElem?_eq_getElem hi2, hx]; simp)
  rw [hpi] at hc2
  simp only at hc2
  have hgin : g ∈ s.ed := by rw [← hg]; exact List.getElem_mem hi3
  have hcl : cmpF g.name x.name = cmpP (parts g.name) (parts x.name) := cmpF_clean (chk_ne hgm) (chk_ne hxm)
  by_cases c5 : 0 ≤ cmpF g.name x.name
  ·have c5' : decide (cmpP (parts g.name) (parts x.name) < 0) = false := decide_eq_false (by omega)
   refine AWP.seqRegDG [] [] [] mixed (drawF_ok (by kernel_rfl)) (by kernel_rfl) (fun K hK => ?_); simp -implicitDefEqProofs only [go_sem, ↓reduceIte, Nat.reduceEqDiff, Nat.reduceAdd, Nat.reduceLT, Nat.reduceLeDiff, reduceCtorEq, Int.toNat_natCast, e1, hB, h0', hlm, hwm, hlt2, hge2]
   refine Ud (rmayS_ok s.t x ht c1 (z.rk x hxin) (z.en x hxin) _ _) body_125 ?_
   try (refine Evf @c4 ?_)
   repeat (first | (refine Gdf 39 (jn7 @h0' @e1 @hB @hlm @hwm @hlt2 @hge2) ?_) | (refine Gdf 42 (jn7 @h0' @e1 @hB @hlm @hwm @hlt2 @hge2) ?_) | (refine ⟨by omega, ?_⟩))
   refine Ud (rLess_ok (mkS g.name) (mkS x.name) (by rw [mkS_size]; exact z.en g hgin) (by rw [mkS_size]; exact z.en x hxin) _ _) body_126 ?_
   try (refine Evf (jn2 @mkS_list @c5') ?_)
   repeat (first | (refine Gdf 39 (jn4 @h0' @e1 @hB @c5') ?_) | (refine Gdf 42 (jn4 @h0' @e1 @hB @c5') ?_) | (refine ⟨by omega, ?_⟩))
   refine hK _ _ _ ?_; clear hK K
   refine Bt ?_
   refine Rk ?_
   refine AWP.ret ?_
   refine Ev ?_
   exact fin _ _ _ 1 (by exact Er) (Ouf @ho) (bad (by rw [hc2, decide_eq_false (show ¬ cmpF g.name x.name < 0 by omega)]; simp))
  ·have c5' : decide (cmpP (parts g.name) (parts x.name) < 0) = true := decide_eq_true (by omega)
   refine AWP.seqRegDG [] [] [] mixed (drawF_ok (by kernel_rfl)) (by kernel_rfl) (fun K hK => ?_); simp -implicitDefEqProofs only [go_sem, ↓reduceIte, Nat.reduceEqDiff, Nat.reduceAdd, Nat.reduceLT, Nat.reduceLeDiff, reduceCtorEq, Int.toNat_natCast, e1, hB, h0', hlm, hwm, hlt2, hge2]
   refine Ud (rmayS_ok s.t x ht c1 (z.rk x hxin) (z.en x hxin) _ _) body_125 ?_
   try (refine Evf @c4 ?_)
   repeat (first | (refine Gdf 39 (jn7 @h0' @e1 @hB @hlm @hwm @hlt2 @hge2) ?_) | (refine Gdf 42 (jn7 @h0' @e1 @hB @hlm @hwm @hlt2 @hge2) ?_) | (refine ⟨by omega, ?_⟩))
   refine Ud (rLess_ok (mkS g.name) (mkS x.name) (by rw [mkS_size]; exact z.en g hgin) (by rw [mkS_size]; exact z.en x hxin) _ _) body_126 ?_
   try (refine Evf (jn2 @mkS_list @c5') ?_)
   repeat (first | (refine Gdf 39 (jn4 @h0' @e1 @hB @c5') ?_) | (refine Gdf 42 (jn4 @h0' @e1 @hB @c5') ?_) | (refine ⟨by omega, ?_⟩))
   refine hK _ _ _ ?_; clear hK K
   refine Bf ?_
   refine AWP.skip ?_
   refine Ev ?_
   refine Raf (jn2 @e29 @hw1) (fun E K hE hK => ?_); refine hK _ _ _ ?_; clear hE hK K E
   exact ⟨(by decide : 1 ≤ 2), s.ed.length - (i + 1), by omega, i + 1, by omega, rfl, cutH_outer (Nat.le_succ _) (Ouf @ho) hlow, cutH_same (Nat.lt_succ_self _) (by exact Erf @hB) (by simp [lowCs, lowC]), by refine Evf @e1 ?_; exact cutV_ptr (Nat.lt_succ_self _), by exact Ecf @e27, by exact Ecf @e28, by exact Er, by rw [hc2, c4, hpn, decide_eq_true (show cmpF g.name x.name < 0 by omega)]; rfl, hmay2 c4⟩
 ·refine Bff @hlt ?_
  refine AWP.exit ?_
  refine Ev ?_
  refine Rk ?_
  refine AWP.ret ?_
  refine fin _ _ _ 0 (by exact Er) ho ?_
  have : i = s.ed.length := by omega
  subst this
  rw [hcx, hc, List.drop_length]; rfl
theorem appP_fl {hS : Heap} {es : List (List PD)} (hes : okEs 6 es) (hl : es.length ≤ 1000000) : BiP Tryz.prog hS [60, 60] [.one (.p (.v (.slice none 0 0))), .one (.p (.sl 6 es))] (.one (.p (.sl 6 es))) := fun C h n _ =>
 BiK.append_ro (e := 82) (sz := 6) (bytes := 56) ty_slE_60 ty_tsz_82 ty_tzero_82 rfl ty_tby_82 ty_isIntT_60 (by unfold srcA; simp) hes (by omega) (by decide) (by omega)
theorem app_ed {C : Ctx} {h : Heap} {n : Nat} {K : KT} {id ver cap len m : Nat} {es fs : List (List PD)} {x : AV} (hr : RowAt h id ver cap 5 es) (hes : okEs 5 es) (hfs : okEs 5 fs) (hx : srcA h 5 x = some (m, fs.flatten.map .p)) (hlen : len = es.length) (hm : m = fs.length) (hl : len + m ≤ 1000000)
  (k : ∀ cap' T', (es ++ fs).length * 5 + T'.length = cap' * 5 → lowCs 0 T' = true → K (.one (.win id (ver + 1) 0 (len + m) cap')) (upd h id (rowB (ver + 1) (es ++ fs) T')) n) :
  BiK Tryz.prog C .append [61, 61] [.one (.win id ver 0 len cap), x] h n K := by
 obtain ⟨T, h1, h3, h4⟩ := hr
 have hfl := okEs_len hes
 refine BiK.append_own (e := 67) (sz := 5) (bytes := 72) (m := m) (xs := fs.flatten.map .p) (blk := rowB ver es T) ty_slE_61 ty_tsz_67 ty_tzero_67 rfl ty_tby_67 ty_isIntT_61 h1 rfl
  (by rw [rowB]; simp only [List.length_append, List.length_map, hfl]; omega) hx (okEs_flat hfs _) (by omega) (by decide) (by omega) (fun cap' j q1 q2 => ?_)
 have e := row_push (sz := 5) (ver := ver + 1) (len := len) (es := es) (fs := fs) (T := T) hes hlen j
 rw [show (rowB ver es T).cells = es.flatten.map .p ++ T from rfl, e]
 exact k cap' _ (by rw [List.length_replicate, List.length_append]; omega) (lowCs_junk _ _)
theorem appP_oc {hS : Heap} {es : List (List PD)} (hes : okEs 1 es) (hl : es.length ≤ 1000000) : BiP Tryz.prog hS [38, 38] [.one (.p (.v (.slice none 0 0))), .one (.p (.sl 1 es))] (.one (.p (.sl 1 es))) := fun C h n _ =>
 BiK.append_ro (e := 5) (sz := 1) (bytes := 1) ty_slE_38 ty_tsz_5 ty_tzero_5 rfl ty_tby_5 ty_isIntT_38 (by unfold srcA; simp) hes (by omega) (by decide) (by omega)
theorem BiP.use {P : Program} {C : Ctx} {hS : Heap} {tys : List TypeId} {args : List AV} {v : AV} {h : Heap} {n : Nat} {K : KT} (p : BiP P hS tys args v) (s : Am.Sub hS h) (k : K v h n) : BiK P C .append tys args h n K := by
 intro a w ι Vs I hVs ty cs
 obtain ⟨v', w', av, h', n', ι', h1, ⟨rfl, rfl, rfl⟩, h3, h4, h5⟩ := p C h n s a w ι Vs I hVs ty cs
 exact ⟨v', w', _, _, _, ι', h1, k, h3, h4, h5⟩
structure CpM (s : Sg) (h : Heap) (b : Nat) (m : List Ed) (st : St) : Prop where
 n : st.n = 4
 o : ∀ id, id < b → st.h id = h id
 e2 : st.t 2 = .one (.ptr (b + 1) 0 0)
 e3 : st.t 3 = .one (.ptr (b + 2) 0 0)
 h1 : st.h (b + 1) = some ⟨0, [.p (.v (.int .u64 0)), .p (.v (.slice none 0 0)), .p (.v (.slice none 0 0)), .p (.v (.slice none 0 0)), .p (.v (.slice none 0 0))]⟩
 r : ∃ ver cap, st.h (b + 2) = some ⟨0, [.p (.v (.int .u64 s.gen)), .p (.sl 6 (s.t.map encF)), .win (b + 3) ver 0 m.length cap, .p (.sl 1 (s.names.map encS)), .p (.sl 1 (s.dirs.map encS))]⟩ ∧ RowAt st.h (b + 3) ver cap 5 (m.map encEd)
theorem rCopyS_ok (s : Sg) (z : RfS s) (h : Heap) (b : Nat) : ACalls Tryz.prog 22 [SgV s] h b 0 (fun r h' => r = SgV s ∧ h' = h) := by
 refine ACalls.enter Tryz.func22 rfl (by simp [Tryz.ntmps22]) (fun ι w hn H => ?_)
 have hlow := H.lowCells
 have hlm : (s.ed.map encEd).length = s.ed.length := List.length_map _
 have hzl := z.ed
 refine Rk ?_
 refine AWP.seqRegD [10, 14, 18] [FlsV s.t, ListV s.names, ListV s.dirs] [] mixed (by kernel_rfl) (by kernel_rfl) (fun K hK => .inl ?_) (by kernel_rfl); simp -implicitDefEqProofs only [go_sem, ↓reduceIte, Nat.reduceEqDiff, Nat.reduceAdd, Nat.reduceLT, Nat.reduceLeDiff, reduceCtorEq, Int.toNat_natCast, encSg]
 refine ⟨appP_fl (okEs_fl _) (by rw [List.length_map]; have := z.t; omega), ?_⟩
 refine Ev ?_
 refine ⟨appP_st (okEs_str _) (by rw [List.length_map]; have := z.nm; omega), ?_⟩
 refine Ev ?_
 refine ⟨appP_st (okEs_str _) (by rw [List.length_map]; have := z.dr; omega), ?_⟩
 refine Ev ?_
 have hx2 : ∀ B1 B2, (upd (upd h b B1) (b + 1) B2) (b + 2) = none := fun B1 B2 => (upd_ne _ _ _ _ (by omega)).trans ((upd_ne _ _ _ _ (by omega)).trans (hn _ (by omega)))
 refine ⟨(Am.Sub.refl _).new (hx2 _ _), (Am.Sub.refl _).new (hx2 _ _), ?_⟩
 refine hK _ _ _ ?_; clear hK K
 refine AWP.virtO (b + 2) 2 (upd_same _ _ _) rfl ?_
 refine AWP.mid (CpM s h b s.ed) ?_ ?_
 ·refine Rkf @hlm ?_
  refine AWP.block ?_
  refine AWP.loopM 4 (fun m st => ∃ i, i ≤ s.ed.length ∧ m = s.ed.length - i ∧ CpM s h b (s.ed.take i) st ∧ st.t 22 = EdsV s.ed ∧ st.t 23 = IntV s.ed.length ∧ st.t 24 = IntV i) s.ed.length rfl ⟨0, Nat.zero_le _, rfl, ⟨rfl, Ou, by exact Er, by exact Er, by exact Er, 0, 0, by exact Er, RowAt.nil⟩, by exact Er, by exact Er, by exact Er⟩ ?_
  rintro m ⟨t, hh, n⟩ ⟨i, hi, rfl, ⟨hn0, ho, e2, e3, h1, ver, cap, hb2, hrow⟩, e22, e23, e24⟩ hn1
  simp only at hn0 ho e2 e3 h1 hb2 hrow e22 e23 e24 hn1
  subst hn0
  refine Rkf (jn2 @e23 @e24) ?_
  refine AWP.seq ?_
  by_cases hlt : (i : Int) < s.ed.length
  ·have hw1 : IntKind.i64.wrap ((i : Int) + 1) = ((i + 1 : Nat) : Int) := by rw [wrap_i64 (by omega) (by omega)]; rfl
   have hi2 : i < s.ed.length := by omega
   have hge := encEd_getD s.ed i hi2
   have htk : s.ed.take (i + 1) = s.ed.take i ++ [s.ed[i]] := by rw [List.take_add_one, List.getElem?_eq_getElem hi2]; rfl
   have hml : (s.ed.take i).length ≤ 1000 := by rw [List.length_take]; omega
   obtain ⟨x, hx⟩ : ∃ x, s.ed[i] = x := ⟨_, rfl⟩
   have hxd : x.data.length ≤ 1000 := z.data x (by rw [← hx]; exact List.getElem_mem hi2)
   rw [hx] at hge htk
   generalize s.ed.take i = m at hb2 hrow htk hml
   refine Btf @hlt ?_
   refine AWP.skip ?_
   refine Ev ?_
   refine AWP.seq ?_
   refine AWP.block ?_
   refine AWP.seqReg (by kernel_rfl) (fun E K hE hK => ?_); simp -implicitDefEqProofs only [go_sem, ↓reduceIte, Nat.reduceEqDiff, Nat.reduceAdd, Nat.reduceLT, Nat.reduceLeDiff, reduceCtorEq, Int.toNat_natCast, e22, e24, hlm, hlt, hge, encEd]
   refine ⟨by omega, ?_⟩
   refine hK _ _ _ ?_; clear hE hK K E
   refine Rg (fun E K hE hK => ?_)
   refine BiR.of (BiP.use (appP_oc (okEs_oct x.data) (by rw [List.length_map]; omega)) (Am.Sub.refl _) ?_)
   refine Ev ?_
   refine hK _ _ _ ?_; clear hE hK K E
   have n24 : ¬ b + 2 = b + 4 := by omega
   have n25 : ¬ b + 2 = b + 5 := by omega
   have n23 : ¬ b + 2 = b + 3 := by omega
   refine Raf (jn3 @e3 @hb2 @n24) (fun E K hE hK => ?_)
   refine BiR.of ?_
   refine app_ed (m := 1) (fs := [encEd x]) ((hrow.ne (by omega)).ne (by omega)) (okEs_ed m) (okEs_ed [x]) (srcA_row (sz := 5) (m := 1) (es := [encEd x]) (T := []) 0 (by exact Er) (okEs_ed [x]) (by simp) (.inl rfl)) (by rw [List.length_map]) rfl (by omega) (fun cap' T' q1 q2 => ?_)
   refine Evf (jn5 @e3 @hb2 @n24 @n25 @n23) ?_
   refine hK _ _ _ ?_; clear hE hK K E
   refine Raf (jn2 @e24 @hw1) (fun E K hE hK => ?_); refine hK _ _ _ ?_; clear hE hK K E
   have hm1 : (m ++ [x]).length = m.length + 1 := by simp
   refine ⟨(by decide : 4 ≤ 6), s.ed.length - (i + 1), by omega, i + 1, by omega, rfl, ?_, by exact Ecf @e22, by exact Ecf @e23, by exact Er⟩
   have n12 : ¬ b + 1 = b + 2 := by omega
   have n13 : ¬ b + 1 = b + 3 := by omega
   have n14 : ¬ b + 1 = b + 4 := by omega
   have n15 : ¬ b + 1 = b + 5 := by omega
   rw [htk]
   refine ⟨rfl, cutH_outer (Nat.le_add_right _ _) (Ouf @ho) hlow, by refine Evf @e2 ?_; exact cutV_ptr (show b + 1 < b + 4 by omega), by refine Evf @e3 ?_; exact cutV_ptr (show b + 2 < b + 4 by omega), cutH_same (show b + 1 < b + 4 by omega) (by exact Erf (jn5 @n12 @n13 @n14 @n15 @h1)) rfl, ver + 1, cap', cutH_same (show b + 2 < b + 4 by omega) (by rw [hm1]; exact Er) (by simp [lowCs, lowC]), ?_⟩
   rw [List.map_append]
   exact ((RowAt.new q1 q2).ne (by omega)).cut (show b + 3 < b + 4 by omega)
  ·refine Bff @hlt ?_
   refine AWP.exit ?_
   refine Ev ?_
   have hie : i = s.ed.length := by omega
   subst hie
   rw [List.take_length] at hb2 hrow
   exact ⟨rfl, ho, e2, e3, h1, ver, cap, hb2, hrow⟩
 rintro ⟨t, hh, n⟩ ⟨hn0, ho, e2, e3, h1, ver, cap, hb2, hrow⟩
 simp only at hn0 ho e2 e3 h1 hb2 hrow
 subst hn0
 have n12 : ¬ b + 1 = b + 2 := by omega
 have n13 : ¬ b + 1 = b + 3 := by omega
 refine AWP.frzAt (b + 2) 2 hb2 rfl hrow (okEs_ed s.ed) (by rw [List.length_map]) (by omega) ?_
 show AWP _ _ _ _ ⟨t, upd (delH hh (b + 3)) (b + 2) ⟨0, [.p (.v (.int .u64 s.gen)), .p (.sl 6 (s.t.map encF)), .p (.sl 5 (s.ed.map encEd)), .p (.sl 1 (s.names.map encS)), .p (.sl 1 (s.dirs.map encS))]⟩, 4⟩
 refine AWP.seqReg (by kernel_rfl) (fun E K hE hK => ?_); simp -implicitDefEqProofs only [go_sem, ↓reduceIte, Nat.reduceEqDiff, Nat.reduceAdd, Nat.reduceLT, Nat.reduceLeDiff, reduceCtorEq, Int.toNat_natCast, e2, e3, delH, n12, n13, h1]; refine hK _ _ _ ?_; clear hE hK K E
 refine AWP.ret ?_
 exact Ends.pure hn H (by
  intro id hid
  have hid' : id < b := hid
  have q1 : ¬ id = b + 1 := by omega
  have q2 : ¬ id = b + 2 := by omega
  have q3 : ¬ id = b + 3 := by omega
  simp -implicitDefEqProofs only [go_sem, ↓reduceIte, Nat.reduceEqDiff, Nat.reduceAdd, Nat.reduceLT, Nat.reduceLeDiff, reduceCtorEq, Int.toNat_natCast, q1, q2, q3, delH]
  exact ho id hid) (r0 := SgV s) (by rw [show Tryz.f22.results.toList = [.cell 2 63] from rfl]; (first | (simp -implicitDefEqProofs only [go_sem, ↓reduceIte, Nat.reduceEqDiff, Nat.reduceAdd, Nat.reduceLT, Nat.reduceLeDiff, reduceCtorEq, Int.toNat_natCast, e2, delH]; first | done | rfl) | rfl)) (frz_psS _) ⟨rfl, rfl⟩
theorem getE_take {l : List Ed} {p : S} {i : Nat} (hi : i < l.length) (h : ∀ f ∈ l.take i, ¬ f.name = p) (e : l[i].name = p) : getK nmE p l = some l[i] := by
 unfold getK
 have hs : l = l.take i ++ l[i] :: l.drop (i + 1) := by rw [← List.drop_eq_getElem_cons hi, List.take_append_drop]
 conv => lhs; arg 2; rw [hs]
 rw [List.find?_append, List.find?_eq_none.2 (fun f hf => by simpa using h f hf), Option.none_or, List.find?_cons_of_pos (by simpa using e)]
theorem rWhat_ok (s : Sg) (p : S) (ht : s.t.length ≤ 1000000) (hl : s.ed.length ≤ 1000000) (hc : checkT s.t = 0) (h : Heap) (b : Nat) : ACalls Tryz.prog 62 [SgV s, StrV p] h b 0 (fun r h' => r = EdV (whatS s p) ∧ h' = h) := by
 refine ACalls.enter Tryz.func62 rfl (by simp [Tryz.ntmps62]) (fun ι w hn H => ?_)
 have hlow := H.lowCells
 have hlm : (s.ed.map encEd).length = s.ed.length := List.length_map _
 have fin : ∀ (tt : Nat → AV) (hh : Heap) (n : Nat) (x : Ed) (d : PD), tt 4 = .one (.ptr (b + 1) 0 0) → hh (b + 1) = some ⟨0, edC x d⟩ → edD x d → (∀ id, id < b → hh id = h id) → x = whatS s p → Am.Ends Tryz.prog ⟨Tryz.f62.ntmps, b, ι, h, w, x0⟩ Tryz.f62 0 (fun r h' => r = EdV (whatS s p) ∧ h' = h) ⟨tt, hh, n⟩ := by
  intro tt hh n x d h4 hb hd ho hv
  exact Ends.pure hn H ho (r0 := .agg (edC x d)) (by rw [show Tryz.f62.results.toList = [.cell 4 67] from rfl]; (first | (simp -implicitDefEqProofs only [go_sem, ↓reduceIte, Nat.reduceEqDiff, Nat.reduceAdd, Nat.reduceLT, Nat.reduceLeDiff, reduceCtorEq, Int.toNat_natCast, h4, hb, edC]; first | done | rfl) | rfl)) (frz_edC hd) ⟨by rw [hv], rfl⟩
 refine Rk ?_
 refine AWP.mid (fun st => (∀ id, id < b → st.h id = h id) ∧ st.t 1 = StrV p ∧ st.t 2 = .one (.ptr b 0 0) ∧ st.t 4 = .one (.ptr (b + 1) 0 0) ∧ st.h b = some ⟨0, (encSg s).map .p⟩ ∧ (st.h (b + 1) = some ⟨0, edC zEd (.v (.slice none 0 0))⟩) ∧ st.n = 2 ∧ getK nmE p s.ed = none) ?_ ?_
 ·refine Rkf @hlm ?_
  refine AWP.block ?_
  refine AWP.loopUp 2 s.ed.length (fun i st => (∀ id, id < b → st.h id = h id) ∧ st.t 1 = StrV p ∧ st.t 2 = .one (.ptr b 0 0) ∧ st.t 4 = .one (.ptr (b + 1) 0 0) ∧ st.h b = some ⟨0, (encSg s).map .p⟩ ∧ (st.h (b + 1) = some ⟨0, edC zEd (.v (.slice none 0 0))⟩) ∧ st.t 10 = EdsV s.ed ∧ st.t 11 = IntV s.ed.length ∧ st.t 12 = IntV (i : Nat) ∧ ∀ f ∈ s.ed.take i, ¬ f.name = p) 0 (Nat.zero_le _) rfl ⟨Ou, by exact Er, by exact Er, by exact Er, by exact Er, by exact Er, by exact Er, by exact Er, by exact Er, by simp⟩ ?_
  rintro i ⟨t, hh, n⟩ hi ⟨ho, e1, e2, e4, hb, hb1, e10, e11, e12, hne⟩ hn1
  simp only at ho e1 e2 e4 hb hb1 e10 e11 e12 hn1
  subst hn1
  refine Rkf (jn2 @e11 @e12) ?_
  refine AWP.seq ?_
  by_cases hlt : (i : Int) < s.ed.length
  ·have hi2 : i < s.ed.length := by omega
   have hw1 : IntKind.i64.wrap ((i : Int) + 1) = ((i + 1 : Nat) : Int) := by rw [wrap_i64 (by omega) (by omega)]; rfl
   have hge := encEd_getD s.ed i hi2
   have htk : s.ed.take (i + 1) = s.ed.take i ++ [s.ed[i]] := by rw [List.take_add_one, List.getElem?_eq_getElem hi2]; rfl
   have hft : s.ed[i].name = p → getK nmE p s.ed = some s.ed[i] := getE_take hi2 hne
   obtain ⟨x, hx⟩ : ∃ x, s.ed[i] = x := ⟨_, rfl⟩
   rw [hx] at hge htk hft
   have n12 : ¬ b + 1 = b + 2 := by omega
   refine Btf @hlt ?_
   refine AWP.skip ?_
   refine Ev ?_
   refine AWP.seq ?_
   refine AWP.block ?_
   refine AWP.seqReg (by kernel_rfl) (fun E K hE hK => ?_); simp -implicitDefEqProofs only [go_sem, ↓reduceIte, Nat.reduceEqDiff, Nat.reduceAdd, Nat.reduceLT, Nat.reduceLeDiff, reduceCtorEq, Int.toNat_natCast, e10, e12, hlm, hlt, hge, encEd]
   refine ⟨by omega, ?_⟩
   refine hK _ _ _ ?_; clear hE hK K E
   by_cases cp : x.name = p
   ·have c' : (x.name = p) = True := eq_true cp
    refine Rkf (jn3 @e1 @mkS_list @c') ?_
    refine Bt ?_
    refine AWP.seqReg (by kernel_rfl) (fun E K hE hK => ?_); simp -implicitDefEqProofs only [go_sem, ↓reduceIte, Nat.reduceEqDiff, Nat.reduceAdd, Nat.reduceLT, Nat.reduceLeDiff, reduceCtorEq, Int.toNat_natCast, e4, hb1, n12, edC]; refine hK _ _ _ ?_; clear hE hK K E
    refine AWP.ret ?_
    refine Ev ?_
    exact fin _ _ _ x (.sl 1 (x.data.map encO)) (by exact Erf @e4) (by exact Er) (.inl rfl) (Ouf @ho) (by unfold whatS; rw [hft cp])
   ·have c' : (x.name = p) = False := eq_false cp
    refine Rkf (jn3 @e1 @mkS_list @c') ?_
    refine Bf ?_
    refine AWP.skip ?_
    refine Ev ?_
    refine Raf (jn2 @e12 @hw1) (fun E K hE hK => ?_); refine hK _ _ _ ?_; clear hE hK K E
    exact ⟨(by decide : 2 ≤ 3), hi2, cutH_outer (Nat.le_add_right _ _) (Ouf @ho) hlow, by exact Ecf @e1, by refine Evf @e2 ?_; exact cutV_ptr (Nat.lt_add_of_pos_right (by decide)), by refine Evf @e4 ?_; exact cutV_ptr (show b + 1 < b + 2 by omega), cutH_same (Nat.lt_add_of_pos_right (by decide)) (by exact Erf @hb) (show lowCs _ ((encSg s).map Cell.p) = true from lowCs_p _ _), cutH_same (show b + 1 < b + 2 by omega) (by exact Erf (jn2 @n12 @hb1)) rfl, by exact Ecf @e10, by exact Ecf @e11, by exact Er, by
     rw [htk]
     intro g hg
     rcases List.mem_append.1 hg with hg | hg
     ·exact hne g hg
     ·rw [List.mem_singleton.1 hg]; exact cp⟩
  ·have hie : i = s.ed.length := by omega
   subst hie
   rw [List.take_length] at hne
   refine Bff @hlt ?_
   refine AWP.exit ?_
   refine Ev ?_
   exact ⟨ho, e1, e2, e4, hb, hb1, getK_none.2 hne⟩
 rintro ⟨t, hh, n⟩ ⟨ho, e1, e2, e4, hb, hb1, rfl, hg⟩
 simp only at ho e1 e2 e4 hb hb1
 have hws : whatS s p = match fileF s.t p with | some f => ⟨p, false, f.rank, p, []⟩ | none => goneE p := by unfold whatS; rw [hg, fileT_eq hc]; rfl
 have kf := rfile_ok s.t p ht
 have n12 : ¬ b + 1 = b + 2 := by omega
 cases hf : fileF s.t p with
 | none =>
   rw [hf] at hws
   rw [show fileO s.t p = (zeroFl, false) by unfold fileO; rw [hf]] at kf
   refine AWP.seqReg (by kernel_rfl) (fun E K hE hK => ?_); simp -implicitDefEqProofs only [go_sem, ↓reduceIte, Nat.reduceEqDiff, Nat.reduceAdd, Nat.reduceLT, Nat.reduceLeDiff, reduceCtorEq, Int.toNat_natCast, e1, e2, hb, encSg]
   refine Us (kf _ _) body_114 ?_
   refine hK _ _ _ ?_; clear hE hK K E
   refine AWP.seq ?_
   refine Rk ?_
   refine Bt ?_
   refine AWP.seqReg (by kernel_rfl) (fun E K hE hK => ?_); simp -implicitDefEqProofs only [go_sem, ↓reduceIte, Nat.reduceEqDiff, Nat.reduceAdd, Nat.reduceLT, Nat.reduceLeDiff, reduceCtorEq, Int.toNat_natCast, e1, e4, n12, hb1, edC]; refine hK _ _ _ ?_; clear hE hK K E
   refine AWP.ret ?_
   refine Ev ?_
   exact fin _ _ _ (goneE p) (.v (.slice none 0 0)) (by exact Erf @e4) (by exact Er) (.inr ⟨rfl, rfl⟩) (Ouf @ho) hws.symm
 | some f =>
   rw [hf] at hws
   rw [show fileO s.t p = (f, true) by unfold fileO; rw [hf]] at kf
   refine AWP.seqReg (by kernel_rfl) (fun E K hE hK => ?_); simp -implicitDefEqProofs only [go_sem, ↓reduceIte, Nat.reduceEqDiff, Nat.reduceAdd, Nat.reduceLT, Nat.reduceLeDiff, reduceCtorEq, Int.toNat_natCast, e1, e2, hb, encSg]
   refine Us (kf _ _) body_114 ?_
   refine hK _ _ _ ?_; clear hE hK K E
   refine AWP.seq ?_
   refine Rk ?_
   refine Bs ?_
   refine AWP.seqReg (by kernel_rfl) (fun E K hE hK => ?_); simp -implicitDefEqProofs only [go_sem, ↓reduceIte, Nat.reduceEqDiff, Nat.reduceAdd, Nat.reduceLT, Nat.reduceLeDiff, reduceCtorEq, Int.toNat_natCast, e1, e4, n12, hb1, edC, encF]; refine hK _ _ _ ?_; clear hE hK K E
   refine AWP.ret ?_
   refine Ev ?_
   exact fin _ _ _ ⟨p, false, f.rank, p, []⟩ (.v (.slice none 0 0)) (by exact Erf @e4) (by exact Er) (.inr ⟨rfl, rfl⟩) (Ouf @ho) hws.symm
theorem rread_ok (s : Sg) (p : S) (z : RfS s) (hp : p.length ≤ 1000) (h : Heap) (b : Nat) : ACalls Tryz.prog 61 [SgV s, StrV p] h b 0 (fun r h' => r = .tup [SgV (rdF s p).1, IntV (rdF s p).2] ∧ h' = h) := by
 refine ACalls.enter Tryz.func61 rfl (by simp [Tryz.ntmps61]) (fun ι w hn H => ?_)
 have finB : ∀ (tt : Nat → AV) (hh : Heap) (n : Nat) (e : Int), tt 4 = .one (.ptr (b + 1) 0 0) → hh (b + 1) = some ⟨0, zSgC⟩ → tt 5 = IntV e → (∀ id, id < b → hh id = h id) → (zSg, e) = rdF s p → Am.Ends Tryz.prog ⟨Tryz.f61.ntmps, b, ι, h, w, x0⟩ Tryz.f61 0 (fun r h' => r = .tup [SgV (rdF s p).1, IntV (rdF s p).2] ∧ h' = h) ⟨tt, hh, n⟩ := by
  intro tt hh n e h4 hb h5 ho hv
  exact Ends.pure hn H ho (r0 := .tup [.agg zSgC, IntV e]) (by rw [show Tryz.f61.results.toList = [.cell 4 63, .tmp 5] from rfl]; (first | (simp -implicitDefEqProofs only [go_sem, ↓reduceIte, Nat.reduceEqDiff, Nat.reduceAdd, Nat.reduceLT, Nat.reduceLeDiff, reduceCtorEq, Int.toNat_natCast, h4, hb, h5, zSgC]; first | done | rfl) | rfl)) (frz_tup2 frz_sg0 (.v _)) ⟨by rw [← hv], rfl⟩
 have kc := rCheck_ok (mkS p) (by rw [mkS_size]; exact hp)
 rw [show bl (mkS p) = p from rfl] at kc
 have n12 : ¬ b + 1 = b := by omega
 refine Rk ?_
 refine AWP.seq ?_
 by_cases c1 : checkS keyR s = 0
 case neg =>
  have c1' : (checkS keyR s = 0) = False := eq_false c1
  refine AWP.seqReg (by kernel_rfl) (fun E K hE hK => ?_); simp -implicitDefEqProofs only [go_sem, ↓reduceIte, Nat.reduceEqDiff, Nat.reduceAdd, Nat.reduceLT, Nat.reduceLeDiff, reduceCtorEq, Int.toNat_natCast, encSg]
  refine Us (rCheckS_ok s z _ _) body_70 ?_
  refine Evf @c1' ?_
  refine hK _ _ _ ?_; clear hE hK K E
  refine Bt ?_
  refine Rkf @n12 ?_
  refine AWP.ret ?_
  refine Ev ?_
  exact finB _ _ _ 1 (by exact Er) (by (first | (simp -implicitDefEqProofs only [go_sem, ↓reduceIte, Nat.reduceEqDiff, Nat.reduceAdd, Nat.reduceLT, Nat.reduceLeDiff, reduceCtorEq, Int.toNat_natCast, zSgC]; first | done | rfl) | rfl)) (by exact Er) Ou (by unfold rdF; rw [if_pos (.inl c1)])
 have c1' : (checkS keyR s = 0) = True := eq_true c1
 by_cases c2 : chkN p = 0
 case neg =>
  have c2' : (chkN p = 0) = False := eq_false c2
  refine AWP.seqReg (by kernel_rfl) (fun E K hE hK => ?_); simp -implicitDefEqProofs only [go_sem, ↓reduceIte, Nat.reduceEqDiff, Nat.reduceAdd, Nat.reduceLT, Nat.reduceLeDiff, reduceCtorEq, Int.toNat_natCast, encSg]
  refine Us (rCheckS_ok s z _ _) body_70 ?_
  refine Evf @c1' ?_
  refine Us (kc _ _) body_113 ?_
  refine Evf @c2' ?_
  refine hK _ _ _ ?_; clear hE hK K E
  refine Bt ?_
  refine Rkf @n12 ?_
  refine AWP.ret ?_
  refine Ev ?_
  exact finB _ _ _ 1 (by exact Er) (by (first | (simp -implicitDefEqProofs only [go_sem, ↓reduceIte, Nat.reduceEqDiff, Nat.reduceAdd, Nat.reduceLT, Nat.reduceLeDiff, reduceCtorEq, Int.toNat_natCast, zSgC]; first | done | rfl) | rfl)) (by exact Er) Ou (by unfold rdF; rw [if_pos (.inr c2)])
 have c2' : (chkN p = 0) = True := eq_true c2
 have hd : rdF s p = if 1024 < (putQ s.names p).length then (zSg, 6) else ({ s with names := putQ s.names p }, 0) := by unfold rdF; rw [if_neg (by rw [c1, c2]; simp)]
 refine AWP.seqReg (by kernel_rfl) (fun E K hE hK => ?_); simp -implicitDefEqProofs only [go_sem, ↓reduceIte, Nat.reduceEqDiff, Nat.reduceAdd, Nat.reduceLT, Nat.reduceLeDiff, reduceCtorEq, Int.toNat_natCast, encSg]
 refine Us (rCheckS_ok s z _ _) body_70 ?_
 refine Evf @c1' ?_
 refine Us (kc _ _) body_113 ?_
 refine Evf @c2' ?_
 refine hK _ _ _ ?_; clear hE hK K E
 refine Bs ?_
 refine AWP.seqReg (by kernel_rfl) (fun E K hE hK => ?_); simp -implicitDefEqProofs only [go_sem, ↓reduceIte, Nat.reduceEqDiff, Nat.reduceAdd, Nat.reduceLT, Nat.reduceLeDiff, reduceCtorEq, Int.toNat_natCast, encSg]
 refine Us (rCopyS_ok s z _ _) body_22 ?_
 refine hK _ _ _ ?_; clear hE hK K E
 refine Rg (fun E K hE hK => ?_)
 refine Us (rwith_ok s.names p (by have := z.nm; omega) z.nn hp _ _) body_72 ?_
 refine hK _ _ _ ?_; clear hE hK K E
 refine AWP.seq ?_
 obtain ⟨l, hl⟩ : ∃ l, putQ s.names p = l := ⟨_, rfl⟩
 have hln : (l.map encS).length = l.length := List.length_map _
 rw [hl] at hd ⊢
 by_cases c3 : (1024 : Int) < l.length
 ·refine Rkf (jn2 @hln @c3) ?_
  refine Bt ?_
  refine Rkf @n12 ?_
  refine AWP.ret ?_
  refine Ev ?_
  exact finB _ _ _ 6 (by exact Er) (by (first | (simp -implicitDefEqProofs only [go_sem, ↓reduceIte, Nat.reduceEqDiff, Nat.reduceAdd, Nat.reduceLT, Nat.reduceLeDiff, reduceCtorEq, Int.toNat_natCast, zSgC]; first | done | rfl) | rfl)) (by exact Er) Ou (by rw [hd, if_pos (by omega)])
 ·rw [if_neg (by omega)] at hd
  refine Rkf (jn2 @hln @c3) ?_
  refine Bs ?_
  refine Rkf @n12 ?_
  refine AWP.ret ?_
  exact Ends.pure hn H Ou (r0 := .tup [SgV { s with names := l }, IntV 0]) (by rw [show Tryz.f61.results.toList = [.cell 4 63, .tmp 5] from rfl]; exact Er) (frz_tup2 (frz_psS _) (.v _)) ⟨by rw [hd], rfl⟩
theorem rSee_ok (s : Sg) (p : S) (z : RfS s) (hp : p.length ≤ 1000) (h : Heap) (b : Nat) : ACalls Tryz.prog 24 [SgV s, StrV p] h b 0 (fun r h' => r = .tup [EdV (seeS keyR s p).1, SgV (seeS keyR s p).2.1, IntV (seeS keyR s p).2.2] ∧ h' = h) := by
 refine ACalls.enter Tryz.func24 rfl (by simp [Tryz.ntmps24]) (fun ι w hn H => ?_)
 have n1 : ¬ b + 1 = b := by omega
 have n2 : ¬ b + 2 = b := by omega
 have n21 : ¬ b + 2 = b + 1 := by omega
 have n12 : ¬ b + 1 = b + 2 := by omega
 rw [see_eq]
 obtain ⟨⟨m, e⟩, hv⟩ : ∃ v, rdF s p = v := ⟨_, rfl⟩
 have kr := rread_ok s p z hp
 rw [hv] at kr ⊢
 simp only at kr ⊢
 refine Rk ?_
 refine AWP.seqReg (by kernel_rfl) (fun E K hE hK => ?_); simp -implicitDefEqProofs only [go_sem, ↓reduceIte, Nat.reduceEqDiff, Nat.reduceAdd, Nat.reduceLT, Nat.reduceLeDiff, reduceCtorEq, Int.toNat_natCast, encSg]
 refine Us (kr _ _) body_61 ?_
 refine hK _ _ _ ?_; clear hE hK K E
 refine AWP.seq ?_
 by_cases he : e = 0
 case neg =>
  have he' : (e = 0) = False := eq_false he
  rw [if_pos he]
  refine Rkf @he' ?_
  refine Bt ?_
  refine Rkf (jn4 @n1 @n2 @n21 @n12) ?_
  refine AWP.ret ?_
  refine Ev ?_
  exact Ends.pure hn H Ou (r0 := .tup [.agg (edC zEd (.v (.slice none 0 0))), .agg zSgC, IntV e]) (by rw [show Tryz.f24.results.toList = [.cell 4 67, .cell 5 63, .tmp 6] from rfl]; (first | (simp -implicitDefEqProofs only [go_sem, ↓reduceIte, Nat.reduceEqDiff, Nat.reduceAdd, Nat.reduceLT, Nat.reduceLeDiff, reduceCtorEq, Int.toNat_natCast, n1, n2, n21, n12, edC, zSgC, zEd]; first | done | rfl) | rfl)) (frz_tup3 (frz_edC (.inr ⟨rfl, rfl⟩)) frz_sg0 (.v _)) ⟨rfl, rfl⟩
 subst he
 have hm : checkT m.t = 0 ∧ m.t = s.t ∧ m.ed = s.ed := by
  unfold rdF at hv
  split at hv
  ·cases hv
  ·rename_i c
   split at hv
   ·cases hv
   ·injection hv with hv _
    subst hv
    exact ⟨(check_iff.1 (Decidable.byContradiction fun q => c (.inl q))).t, rfl, rfl⟩
 rw [if_neg (by simp)]
 obtain ⟨x, hx⟩ : ∃ x, whatS m p = x := ⟨_, rfl⟩
 rw [hx]
 refine Rk ?_
 refine Bs ?_
 refine AWP.seqRegD [21] [EdV x] [b + 1, b + 2] mixed (by kernel_rfl) (by kernel_rfl) (fun K hK => .inl ?_) (by kernel_rfl); simp -implicitDefEqProofs only [go_sem, ↓reduceIte, Nat.reduceEqDiff, Nat.reduceAdd, Nat.reduceLT, Nat.reduceLeDiff, reduceCtorEq, Int.toNat_natCast, n1, n2, n21, n12, encSg, encEd]
 refine CallP.use (fun h b _ => hx ▸ rWhat_ok m p (by rw [hm.2.1]; have := z.t; omega) (by rw [hm.2.2]; have := z.ed; omega) hm.1 h b) body_62 ?_
 simp -implicitDefEqProofs only [go_sem, ↓reduceIte, Nat.reduceEqDiff, Nat.reduceAdd, Nat.reduceLT, Nat.reduceLeDiff, reduceCtorEq, Int.toNat_natCast, n1, n2, n21, n12, EdV, encSg, encEd]
 refine ⟨subA2 (x := b + 1) (y := b + 2) (by exact Erf (jn4 @n1 @n2 @n21 @n12)) n12, subB2 (x := b + 1) (y := b + 2) (by exact Erf (jn4 @n1 @n2 @n21 @n12)) (by exact Erf (jn4 @n1 @n2 @n21 @n12)) n12, ?_⟩
 refine hK _ _ _ ?_; clear hK K
 refine AWP.ret ?_
 exact Ends.pure hn H Ou (r0 := .tup [EdV x, SgV m, IntV 0]) (by rw [show Tryz.f24.results.toList = [.cell 4 67, .cell 5 63, .tmp 6] from rfl]; exact Erf (jn4 @n1 @n2 @n21 @n12)) (frz_tup3 (frz_psS _) (frz_psS _) (.v _)) ⟨rfl, rfl⟩
end Go.Proofs.YtihgnpboabpchaaGreatDoor
