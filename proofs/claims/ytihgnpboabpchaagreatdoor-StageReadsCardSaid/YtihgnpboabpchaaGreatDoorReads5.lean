/-
  Part 5 of the proof of stageReads_card: steps of the machine, walks and plain laws; each holds under the conditions that it states.
-/
import Derived.Test.YtihgnpboabpchaaGreatDoorReads4
import Derived.Test.YtihgnpboabpchaaGreatDoorReads3
import Derived.Test.YtihgnpboabpchaaGreatDoorReads1
import Derived.Test.YtihgnpboabpchaaGreatDoorReads2
import Derived.Sort.AssemblyPlain
import Derived.Sort.LotC

namespace Go.Proofs.YtihgnpboabpchaaGreatDoor
set_option linter.unusedSimpArgs false
set_option linter.unusedVariables false
set_option linter.unnecessarySimpa false
open Go Am
set_option maxRecDepth 100000
theorem ed_set (l : List Ed) (T : List Cell) {i : Nat} (hi : i < l.length) (x : Ed) : List.take (i * 5) ((l.map encEd).flatten.map Cell.p ++ T) ++ .p (.v (.string (mkS x.name))) :: .p (.v (.bool x.gone)) :: .p (.v (.float .f64 x.rank)) :: .p (.v (.string (mkS x.of))) :: .p (.sl 1 (x.data.map encO)) :: List.drop (i * 5 + 5) ((l.map encEd).flatten.map Cell.p ++ T) = ((l.take i ++ (x :: l.drop (i + 1))).map encEd).flatten.map Cell.p ++ T := by
  have h := spl_row (es := l.map encEd) (fs := [encEd x]) (i := i) T (okEs_ed l) (okEs_ed [x]) (by simp; omega)
  simpa [spl, encEd] using h
theorem sedit_ok (s : Sg) (e : Int) (x : Ed) (hr : Ris nmE s.ed) (hl : s.ed.length ≤ 1000000) (hc : ∀ y ∈ s.ed, chkN y.name = 0) (hp : okG x.name) (h : Heap) (b W B N D : Nat) (hW : W < b) (hBb : B < b) (hN : N < b) (hD : D < b) (hw : SW h W B N D s e) :
    ACalls Tryz.prog 82 [.one (.ptr W 0 0), EdV x] h b 0 (SR h b W B N D (editS s e x).1 (editS s e x).2 (.tup [])) := by
  refine ACalls.enter Tryz.func82 rfl (by simp [Tryz.ntmps82]) (fun ι w hn H => ?_)
  have hWb : ¬ W = b := by omega
  have hBb1 : ¬ B = b := by omega
  have nbW : ¬ b = W := by omega
  have nbB : ¬ b = B := by omega
  obtain ⟨d1, d2, d3, d4, d5, d6⟩ : (¬ W = B) ∧ (¬ W = N) ∧ (¬ W = D) ∧ (¬ B = N) ∧ (¬ B = D) ∧ (¬ N = D) := ⟨hw.d1, hw.d2, hw.d3, hw.d4, hw.d5, hw.d6⟩
  have d1' : ¬ B = W := fun q => d1 q.symm
  have d2' : ¬ N = W := fun q => d2 q.symm
  have d3' : ¬ D = W := fun q => d3 q.symm
  have d4' : ¬ N = B := fun q => d4 q.symm
  have d5' : ¬ D = B := fun q => d5 q.symm
  have hw0 := hw
  obtain ⟨ev, ec, nv, nc, dv, dc, w1, w2, w3, w4⟩ := hw.w
  have nNb : ¬ N = b := by omega
  have nDb : ¬ D = b := by omega
  have hlm : (s.ed.map encEd).length = s.ed.length := List.length_map _
  have hki := posK_le (nm := nmE) x.name s.ed
  have fin : ∀ (tt : Nat → AV) (hh : Heap) (n : Nat) (s' : Sg) (e' : Int), (s', e') = editS s e x → SW hh W B N D s' e' → (∀ id, id < b → id ≠ W → id ≠ B → id ≠ N → id ≠ D → hh id = h id) → Am.Ends Tryz.prog ⟨Tryz.f82.ntmps, b, ι, h, w, x0⟩ Tryz.f82 0 (SR h b W B N D (editS s e x).1 (editS s e x).2 (.tup [])) ⟨tt, hh, n⟩ := by
    intro tt hh n s' e' q1 q2 q3
    rw [← q1]
    exact Ends.SR rfl H hW hBb hN hD q2 q3 (by rw [show Tryz.f82.results.toList = [] from rfl]; rfl) (frz_tup0 _ _)
  obtain ⟨T, t1, t2, t3⟩ := w2
  have w2' : RowAt h B ev ec 5 (s.ed.map encEd) := ⟨T, t1, t2, t3⟩
  refine Rk ?_
  refine AWP.seqRegD [] [] [] mixed (by kernel_rfl) (by kernel_rfl) (fun K hK => .inl ?_) (by kernel_rfl); simp -implicitDefEqProofs only [go_sem, ↓reduceIte, Nat.reduceEqDiff, Nat.reduceAdd, Nat.reduceLT, Nat.reduceLeDiff, reduceCtorEq, Int.toNat_natCast, w1, hWb, nbW]
  refine CallD.use (eFindO_ok s.ed x.name hr hl hc hp (w2'.ne hBb1) _) body_111 ?_
  rintro _ _ ⟨rfl, rfl⟩
  refine ⟨Sub.refl _, ?_⟩
  refine Ev ?_
  refine hK _ _ _ ?_; clear hK K
  refine AWP.block ?_
  refine Rkf (jn2 @w1 @hWb) ?_
  by_cases c : e = 0
  case neg =>
    have c' : (e = 0) = False := eq_false c
    refine Evf @c' ?_
    refine Bt ?_
    refine AWP.skip ?_
    exact fin _ _ _ s e (by unfold editS; rw [if_pos c]) (hw0.of (upd_ne _ _ _ _ hWb) (upd_ne _ _ _ _ hBb1) (upd_ne _ _ _ _ nNb) (upd_ne _ _ _ _ nDb)) (fun id hid _ _ _ _ => upd_ne _ _ _ _ (Nat.ne_of_lt hid))
  subst c
  refine Ev ?_
  refine Bf ?_
  cases hg : getK nmE x.name s.ed with
  | some y =>
    obtain ⟨hk, hk2⟩ := atK hr hg
    have hset := ed_set s.ed T hk x
    rw [takeK hr, dropK1 hr hg] at hset
    have hcl2 : ((s.ed.map encEd).flatten.map Cell.p ++ T).length = s.ed.length * 5 + T.length := by rw [List.length_append, List.length_map, okEs_len (okEs_ed s.ed), hlm]
    have t1' : h B = some ⟨ev, (s.ed.map encEd).flatten.map Cell.p ++ T⟩ := t1
    generalize hL : (s.ed.map encEd).flatten.map Cell.p ++ T = L at t1' hset hcl2
    have hle : posK nmE x.name s.ed * 5 + 5 ≤ L.length := by omega
    have hki2 : ((posK nmE x.name s.ed : Nat) : Int) < s.ed.length := by omega
    have hlen2 : (setK nmE x.name (some x) s.ed).length = s.ed.length := by
      have := congrArg List.length (splitK (nm := nmE) (p := x.name) hr)
      rw [hg] at this
      rw [this]; unfold setK; rw [List.length_append, List.length_append, List.length_append, List.length_append]; rfl
    refine Rkf @hg ?_
    refine Bt ?_
    generalize posK nmE x.name s.ed = k at hk hk2 hset hle hki2
    refine AWP.rgD [] [] [B] mixed (by kernel_rfl) (by kernel_rfl) (fun K hK => ?_) (by kernel_rfl); simp -implicitDefEqProofs only [go_sem, ↓reduceIte, Nat.reduceEqDiff, Nat.reduceAdd, Nat.reduceLT, Nat.reduceLeDiff, reduceCtorEq, Int.toNat_natCast, w1, hWb, nbW, t1', hBb1, nbB, hki2, d1, d1']
    repeat (refine ⟨by omega, ?_⟩)
    refine ⟨sub_at _ (by exact Erf (jn2 @t1' @hBb1)), ?_⟩
    refine hK _ _ _ ?_; clear hK K
    refine fin _ _ _ { s with ed := setK nmE x.name (some x) s.ed } 0 (by unfold editS; rw [if_neg (by simp), if_pos (.inl (by rw [hg]; rfl))]) ⟨⟨ev, ec, nv, nc, dv, dc, (upd_ne _ _ _ _ d1).trans ((upd_ne _ _ _ _ hWb).trans (w1.trans (by show _ = some (⟨0, [_, _, .win B ev 0 (setK nmE x.name (some x) s.ed).length ec, _, _, _]⟩ : Blk); rw [hlen2]))), ⟨T, ?_, by rw [List.length_map, hlen2, ← hlm]; exact t2, t3⟩, w3.ofE ((upd_ne _ _ _ _ d4').trans (upd_ne _ _ _ _ nNb)), w4.ofE ((upd_ne _ _ _ _ d5').trans (upd_ne _ _ _ _ nDb))⟩, d1, d2, d3, d4, d5, d6⟩ (fun id hid n1 n2 n3 n4 => by
      have q : ¬ id = b := Nat.ne_of_lt hid
      exact (upd_ne _ _ _ _ n2).trans (upd_ne _ _ _ _ q))
    · refine (upd_same _ _ _).trans ?_
      rw [hset]; rfl
  | none =>
    refine Rkf @hg ?_
    refine Bf ?_
    by_cases cl : (s.ed.length : Int) = 256
    · have cl' : ((s.ed.length : Int) = 256) = True := eq_true cl
      refine AWP.seqReg (by kernel_rfl) (fun E K hE hK => ?_); simp -implicitDefEqProofs only [go_sem, ↓reduceIte, Nat.reduceEqDiff, Nat.reduceAdd, Nat.reduceLT, Nat.reduceLeDiff, reduceCtorEq, Int.toNat_natCast, w1, hWb, t1, hBb1, rowB, cl', decide_true]; refine hK _ _ _ ?_; clear hE hK K E
      refine Bt ?_
      refine Raf (jn2 @w1 @hWb) (fun E K hE hK => ?_)
      refine hK _ _ _ ?_; clear hE hK K E
      exact fin _ _ _ s 6 (by unfold editS; rw [if_neg (by simp), if_neg (by rw [hg]; simp; omega)]) ⟨⟨ev, ec, nv, nc, dv, dc, upd_same _ _ _, (w2'.ne hBb1).ne d1', (w3.ne nNb).ne d2', (w4.ne nDb).ne d3'⟩, d1, d2, d3, d4, d5, d6⟩ (fun id hid n1 _ _ _ => (upd_ne _ _ _ _ n1).trans (upd_ne _ _ _ _ (Nat.ne_of_lt hid)))
    have cl' : ((s.ed.length : Int) = 256) = False := eq_false cl
    refine AWP.seqReg (by kernel_rfl) (fun E K hE hK => ?_); simp -implicitDefEqProofs only [go_sem, ↓reduceIte, Nat.reduceEqDiff, Nat.reduceAdd, Nat.reduceLT, Nat.reduceLeDiff, reduceCtorEq, Int.toNat_natCast, w1, hWb, t1, hBb1, rowB, cl', decide_false]; refine hK _ _ _ ?_; clear hE hK K E
    refine Bf ?_
    obtain ⟨hh, hhe⟩ : ∃ hh, upd h b ⟨0, [.p (.v (.string (mkS x.name))), .p (.v (.bool x.gone)), .p (.v (.float .f64 x.rank)), .p (.v (.string (mkS x.of))), .p (.sl 1 (x.data.map encO))]⟩ = hh := ⟨_, rfl⟩
    have k1 : hh W = some ⟨0, swC s 0 B ev ec N nv nc D dv dc⟩ := by rw [← hhe]; exact (upd_ne _ _ _ _ hWb).trans w1
    have k2 : hh B = some (rowB ev (s.ed.map encEd) T) := by rw [← hhe]; exact (upd_ne _ _ _ _ hBb1).trans t1
    have k3 : RowAt hh N nv nc 1 (s.names.map encS) := by rw [← hhe]; exact w3.ne nNb
    have k4 : RowAt hh D dv dc 1 (s.dirs.map encS) := by rw [← hhe]; exact w4.ne nDb
    have k5 : hh b = some ⟨0, [.p (.v (.string (mkS x.name))), .p (.v (.bool x.gone)), .p (.v (.float .f64 x.rank)), .p (.v (.string (mkS x.of))), .p (.sl 1 (x.data.map encO))]⟩ := by rw [← hhe]; exact upd_same _ _ _
    have k6 : ∀ id, id < b → hh id = h id := fun id hid => by rw [← hhe]; exact upd_ne _ _ _ _ (Nat.ne_of_lt hid)
    rw [hhe]
    refine AWP.rgS [22] [] (ers (delH hh B) W) ((sub_ers _ _).trans (sub_delH _ _)) mixed (by kernel_rfl) (by kernel_rfl) (fun K hK => ?_) (by kernel_rfl); simp -implicitDefEqProofs only [go_sem, ↓reduceIte, Nat.reduceEqDiff, Nat.reduceAdd, Nat.reduceLT, Nat.reduceLeDiff, reduceCtorEq, Int.toNat_natCast, k1, k2, k5, rowB, nbW, nbB, hWb, hBb1, d1, d1', delH]
    have hsub := (sub_ers (delH hh B) W).trans (sub_delH hh B)
    refine ⟨hsub, ?_⟩
    refine CallD.use ((insert_ed_ok (s.ed.map encEd) [encEd x] (okEs_ed s.ed) (okEs_ed [x]) hh _ B ev ec (posK nmE x.name s.ed) T (show B < b + 1 by omega) k2 t3 (by omega) (by omega) (by rw [hlm]; exact hki) (by rw [hlm]; omega) (by simp)).arg_eq (by rw [hlm])) body_135 ?_
    rintro _ _ ⟨ver', cap', T', z1, z2, z3, rfl, rfl⟩
    have hdr : (s.ed.map encEd).take (posK nmE x.name s.ed) ++ ([encEd x] ++ (s.ed.map encEd).drop (posK nmE x.name s.ed)) = (setK nmE x.name (some x) s.ed).map encEd := by
      rw [← List.map_take, ← List.map_drop, takeK hr, dropK hr, hg]
      show _ = (lowK nmE x.name s.ed ++ (([x] : List Ed) ++ higK nmE x.name s.ed)).map encEd
      rw [List.map_append, List.map_append]; rfl
    rw [hdr, List.length_map] at z1 z2
    rw [hdr, List.length_map]
    have hs2 : Am.Sub (ers (delH hh B) W) (upd hh B (rowB ver' ((setK nmE x.name (some x) s.ed).map encEd) T')) := hsub.updN (by (first | (simp -implicitDefEqProofs only [go_sem, ↓reduceIte, Nat.reduceEqDiff, Nat.reduceAdd, Nat.reduceLT, Nat.reduceLeDiff, reduceCtorEq, Int.toNat_natCast, d1, d1', delH]; first | done | rfl) | rfl))
    refine ⟨hs2, ?_⟩
    have hdG : delH hh B W = some ⟨0, swC s 0 B ev ec N nv nc D dv dc⟩ := by unfold delH; rw [if_neg d1]; exact k1
    simp -implicitDefEqProofs only [go_sem, ↓reduceIte, Nat.reduceEqDiff, Nat.reduceAdd, Nat.reduceLT, Nat.reduceLeDiff, reduceCtorEq, Int.toNat_natCast, k1, d1, d1', rowB, hdG]
    refine ⟨hs2.upd (fun bb eb => ?_), ?_⟩
    · rw [ers_lit, if_pos rfl, hdG] at eb
      injection eb with eb
      subst eb; exact ⟨rfl, rfl⟩
    refine hK _ _ _ ?_; clear hK K
    refine fin _ _ _ { s with ed := setK nmE x.name (some x) s.ed } 0 (by unfold editS; rw [if_neg (by simp), if_pos (.inr (by omega))]) ⟨⟨ver', cap', nv, nc, dv, dc, upd_same _ _ _, ⟨T', (upd_ne _ _ _ _ d1').trans (upd_same _ _ _), by rw [List.length_map]; show (setK nmE x.name (some x) s.ed).length * 5 + _ = _; omega, z3⟩, (k3.ne d4').ne d2', (k4.ne d5').ne d3'⟩, d1, d2, d3, d4, d5, d6⟩ (fun id hid n1 n2 _ _ => (upd_ne _ _ _ _ n1).trans ((upd_ne _ _ _ _ n2).trans (k6 id hid)))
end Go.Proofs.YtihgnpboabpchaaGreatDoor
namespace Go.Proofs.YtihgnpboabpchaaGreatDoor
set_option linter.unusedSimpArgs false
set_option linter.unusedVariables false
set_option linter.unnecessarySimpa false
open Go Am
structure Kn where
  name : S
  rank : Nat
  data : S
structure Vw where
  gen : Int
  l : List Kn
structure Gs where
  kind : Int
  base : Vw
  now : Vw
  writes : List S
  names : List S
  dirs : List S
structure Md where
  v : Vw
  g : List Gs
  log : List Dn
structure Ac where
  who : Int
  kind : Int
  p : S
  q : S
  rank : Nat
  data : S
structure Rp where
  e : Int
  gen : Int
  rank : Nat
  data : S
  names : List S
abbrev nmK (k : Kn) : S := k.name
abbrev nmS (s : S) : S := s
def zV : Vw := ⟨0, []⟩
def zG : Gs := ⟨0, zV, zV, [], [], []⟩
def zR : Rp := ⟨0, 0, 0, [], []⟩
def errR (e : Int) : Rp := ⟨e, 0, 0, [], []⟩
def canonR (r : Nat) : Nat := if (FloatKind.f64.format.order r r != some .eq) = true then 9221120237041090561 else r
def insN (l : List S) (p : S) : List S := setK nmS p (some p) l
def setV (v : Vw) (p : S) (k : Option Kn) : Vw := ⟨v.gen, setK nmK p k v.l⟩
abbrev getV (v : Vw) (p : S) : Option Kn := getK nmK p v.l
def putG (g : Gs) (a : Ac) : Gs × Rp :=
  if chkN a.p ≠ 0 then (g, errR 1) else if 65536 < a.data.length then (g, errR 3)
  else ({ g with now := setV g.now a.p (some ⟨a.p, canonR a.rank, a.data⟩), writes := insN g.writes a.p }, zR)
def delG (g : Gs) (a : Ac) : Gs × Rp :=
  if chkN a.p ≠ 0 then (g, errR 1) else match getV g.now a.p with
  | none => ({ g with names := insN g.names a.p }, errR 4)
  | some _ => ({ g with names := insN g.names a.p, now := setV g.now a.p none, writes := insN g.writes a.p }, zR)
def movG (g : Gs) (a : Ac) : Gs × Rp :=
  if chkN a.p ≠ 0 ∨ chkN a.q ≠ 0 then (g, errR 1) else match getV g.now a.p with
  | none => ({ g with names := insN (insN g.names a.p) a.q }, errR 4)
  | some k => if a.p = a.q then ({ g with names := insN (insN g.names a.p) a.q }, zR)
    else if (getV g.now a.q).isSome = true then ({ g with names := insN (insN g.names a.p) a.q }, errR 5)
    else ({ g with names := insN (insN g.names a.p) a.q, now := setV (setV g.now a.p none) a.q (some { k with name := a.q }), writes := insN (insN g.writes a.p) a.q }, zR)
def lookG (g : Gs) (a : Ac) : Gs × Rp :=
  if chkN a.p ≠ 0 then (g, errR 1) else
    ((if g.kind = 1 then { g with names := insN g.names a.p } else g),
     match getV g.now a.p with
     | none => errR 4
     | some k => if a.kind = 7 then ⟨0, 0, k.rank, [], []⟩ else ⟨0, 0, k.rank, k.data, []⟩)
def listG (g : Gs) (a : Ac) : Gs × Rp :=
  if a.p ≠ [] ∧ chkN a.p ≠ 0 then (g, errR 1) else
    ((if g.kind = 1 then { g with dirs := insN g.dirs a.p } else g),
     ⟨0, 0, 0, [], (g.now.l.filter fun k => decide ((withinN a.p k.name).2 = 0) && (withinN a.p k.name).1).map nmK⟩)
def mergeV (v now : Vw) (w : List S) : Vw := ⟨v.gen + 1, w.foldl (fun l p => setK nmK p (getV now p) l) v.l⟩
def comG (v : Vw) (log : List Dn) (g : Gs) : Vw × List Dn × Rp :=
  if (clashR log g.base.gen g.names g.dirs).2 ≠ 0 then (v, log, errR (clashR log g.base.gen g.names g.dirs).2)
  else if g.writes = [] then (v, log, ⟨0, v.gen, 0, [], []⟩)
  else if (addR log (v.gen + 1) g.writes).2 ≠ 0 ∨ 256 < (mergeV v g.now g.writes).l.length then (v, log, errR 6)
  else (mergeV v g.now g.writes, (addR log (v.gen + 1) g.writes).1, ⟨0, v.gen + 1, 0, [], []⟩)
def snapK (k : Int) : Bool := decide (k = 6) || (decide (k = 7) || (decide (k = 8) || decide (k = 10)))
def actG (v : Vw) (log : List Dn) (g : Gs) (a : Ac) : Vw × List Dn × Gs × Rp :=
  if a.kind = 11 then (v, log, g, zR)
  else if a.kind = 1 ∨ a.kind = 2 then (if g.kind ≠ 0 then (v, log, g, errR 10) else (v, log, ⟨a.kind, v, v, [], [], []⟩, ⟨0, v.gen, 0, [], []⟩))
  else if g.kind = 0 ∨ (g.kind = 2 ∧ snapK a.kind = false) then (v, log, g, errR 10)
  else if a.kind = 3 then (v, log, (putG g a).1, (putG g a).2)
  else if a.kind = 4 then (v, log, (delG g a).1, (delG g a).2)
  else if a.kind = 5 then (v, log, (movG g a).1, (movG g a).2)
  else if a.kind = 9 then ((comG v log g).1, (comG v log g).2.1, zG, (comG v log g).2.2)
  else if a.kind = 6 ∨ a.kind = 7 then (v, log, (lookG g a).1, (lookG g a).2)
  else if a.kind = 8 then (v, log, (listG g a).1, (listG g a).2)
  else (v, log, zG, zR)
def okA (a : Ac) : Prop := 0 ≤ a.who ∧ a.who < 64 ∧ 1 ≤ a.kind ∧ a.kind ≤ 11
def gAt (m : Md) (i : Nat) : Gs := m.g.getD i zG
def doM (m : Md) (a : Ac) : Md × Rp :=
  let r := actG m.v m.log (gAt m a.who.toNat) a
  (⟨r.1, m.g.set a.who.toNat r.2.2.1, r.2.1⟩, r.2.2.2)
def newM : Md := ⟨⟨1, []⟩, List.replicate 64 zG, []⟩
structure VOK (U : List S) (v : Vw) : Prop where
  ris : Ris nmK v.l
  mem : ∀ x ∈ v.l, x.name ∈ U ∧ chkN x.name = 0 ∧ x.data.length ≤ 65536
  gen : 1 ≤ v.gen
structure NOK (U : List S) (l : List S) : Prop where
  ris : Ris nmS l
  mem : ∀ x ∈ l, x ∈ U ∧ chkN x = 0
structure DOK (U : List S) (l : List S) : Prop where
  ris : Ris nmS l
  mem : ∀ x ∈ l, x ∈ U ∧ (x = [] ∨ chkN x = 0)
structure GOK' (U : List S) (vg : Int) (g : Gs) : Prop where
  kind : g.kind = 1 ∨ g.kind = 2
  base : VOK U g.base
  now : VOK U g.now
  gen : g.now.gen = g.base.gen
  gen2 : g.base.gen ≤ vg
  writes : NOK U g.writes
  names : NOK U g.names
  dirs : DOK U g.dirs
  snap : g.kind = 2 → g.writes = [] ∧ g.now = g.base
  wrote : ∀ p, getV g.base p ≠ getV g.now p → p ∈ g.writes
def GOK (U : List S) (vg : Int) (g : Gs) : Prop := g = zG ∨ GOK' U vg g
structure OKM (U : List S) (k : Nat) (m : Md) : Prop where
  v : VOK U m.v
  gs : m.g.length = 64
  g : ∀ g ∈ m.g, GOK U m.v.gen g
  log : checkX m.log = 0
  len : m.log.length ≤ k
  gen : m.v.gen = m.log.length + 1
  late : ∀ d ∈ m.log, d.gen ≤ m.v.gen
theorem VOK.mono {U U' : List S} (h : ∀ x ∈ U, x ∈ U') {v : Vw} (o : VOK U v) : VOK U' v := ⟨o.ris, fun x hx => ⟨h _ (o.mem x hx).1, (o.mem x hx).2⟩, o.gen⟩
theorem NOK.mono {U U' : List S} (h : ∀ x ∈ U, x ∈ U') {v : List S} (o : NOK U v) : NOK U' v := ⟨o.ris, fun x hx => ⟨h _ (o.mem x hx).1, (o.mem x hx).2⟩⟩
theorem DOK.mono {U U' : List S} (h : ∀ x ∈ U, x ∈ U') {v : List S} (o : DOK U v) : DOK U' v := ⟨o.ris, fun x hx => ⟨h _ (o.mem x hx).1, (o.mem x hx).2⟩⟩
theorem GOK.mono {U U' : List S} (h : ∀ x ∈ U, x ∈ U') {vg vg' : Int} (hv : vg ≤ vg') {g : Gs} (o : GOK U vg g) : GOK U' vg' g := by
  rcases o with o | o
  · exact .inl o
  · exact .inr ⟨o.kind, o.base.mono h, o.now.mono h, o.gen, Int.le_trans o.gen2 hv, o.writes.mono h, o.names.mono h, o.dirs.mono h, o.snap, o.wrote⟩
theorem len_sub {α : Type} [DecidableEq α] : ∀ {l U : List α}, l.Nodup → (∀ x ∈ l, x ∈ U) → l.length ≤ U.length
  | [], _, _, _ => Nat.zero_le _
  | x :: l, U, hn, hs => by
    have h1 := List.nodup_cons.1 hn
    have hx : x ∈ U := hs x List.mem_cons_self
    have ih := len_sub (U := U.erase x) h1.2 (fun y hy => (List.mem_erase_of_ne (fun e => h1.1 (by rw [← e]; exact hy))).2 (hs y (List.mem_cons_of_mem _ hy)))
    rw [List.length_erase_of_mem hx] at ih
    have := List.length_pos_of_mem hx
    rw [List.length_cons]; omega
theorem Ris.nodup {l : List S} (h : Ris nmS l) : l.Nodup := h.imp (fun {a b} hab e => by rw [cmpF_eq.2 e] at hab; omega)
theorem Ris.nodupK {l : List Kn} (h : Ris nmK l) : (l.map nmK).Nodup := by
  refine List.pairwise_map.2 (h.imp (fun {a b} hab e => ?_))
  have : cmpF (nmK a) (nmK b) = 0 := cmpF_eq.2 e
  omega
theorem VOK.len {U : List S} {v : Vw} (o : VOK U v) : v.l.length ≤ U.length := by
  have := len_sub o.ris.nodupK (U := U) (fun x hx => by obtain ⟨k, hk, rfl⟩ := List.mem_map.1 hx; exact (o.mem k hk).1)
  rwa [List.length_map] at this
theorem NOK.len {U l : List S} (o : NOK U l) : l.length ≤ U.length := len_sub o.ris.nodup (fun x hx => (o.mem x hx).1)
theorem DOK.len {U l : List S} (o : DOK U l) : l.length ≤ U.length := len_sub o.ris.nodup (fun x hx => (o.mem x hx).1)
theorem chk_ne {p : S} (h : chkN p = 0) : p ≠ [] := fun e => by subst e; exact absurd h (by decide)
theorem rise_of : ∀ {l : List S} {q : Option S}, Ris nmS l → (∀ x ∈ l, chkN x = 0) → (∀ a, q = some a → chkN a = 0 ∧ ∀ x ∈ l, cmpF a x < 0) → riseF q l = true
  | [], q, _, _, _ => by cases q <;> rfl
  | p :: ps, q, h, hc, hq => by
    obtain ⟨h1, h2⟩ := Ris.cons.1 h
    have hp := hc p List.mem_cons_self
    have ih := rise_of (q := some p) h2 (fun x hx => hc x (List.mem_cons_of_mem _ hx)) (fun a ha => by injection ha with ha; subst ha; exact ⟨hp, h1⟩)
    unfold riseF
    rw [ih, hp]
    cases q with
    | none => rfl
    | some a =>
      obtain ⟨ha, hlt⟩ := hq a rfl
      have h3 := hlt p List.mem_cons_self
      rw [cmpF_clean (chk_ne ha) (chk_ne hp)] at h3
      have e : cmpN a p = (cK a p, 0) := cmpN_ok (chkN_zero.1 ha) (chkN_zero.1 hp)
      simp only [e, decide_true, decide_eq_true h3, Bool.and_self]
theorem VOK.set {U : List S} {v : Vw} (o : VOK U v) {p : S} {k : Option Kn} (hk : ∀ x, k = some x → x.name = p ∧ x.data.length ≤ 65536) (hu : p ∈ U) (hc : chkN p = 0) : VOK U (setV v p k) :=
  ⟨o.ris.set (fun x hx => (hk x hx).1), fun x hx => by
    rcases set_mem.1 hx with e | e
    · obtain ⟨h1, h2⟩ := hk x e; rw [h1]; exact ⟨hu, hc, h2⟩
    · exact o.mem x e.1, o.gen⟩
structure WOK (U : List S) (k : Nat) (v : Vw) (log : List Dn) : Prop where
  vw : VOK U v
  chk : checkX log = 0
  len : log.length ≤ k
  gen : v.gen = log.length + 1
  late : ∀ d ∈ log, d.gen ≤ v.gen
theorem WOK.more {U : List S} {k : Nat} {v : Vw} {log : List Dn} (w : WOK U k v log) : WOK U (k + 1) v log := ⟨w.vw, w.chk, by have := w.len; omega, w.gen, w.late⟩
theorem OKM.mono {U U' : List S} {k : Nat} {m : Md} (h : ∀ x ∈ U, x ∈ U') (o : OKM U k m) : OKM U' k m := ⟨o.v.mono h, o.gs, fun g hg => (o.g g hg).mono h (Int.le_refl _), o.log, o.len, o.gen, o.late⟩
end Go.Proofs.YtihgnpboabpchaaGreatDoor
namespace Go.Proofs.YtihgnpboabpchaaGreatDoor
set_option linter.unusedSimpArgs false
set_option linter.unusedVariables false
set_option linter.unnecessarySimpa false
open Go Am
structure StOK (k : Nat → Int) (s : Sg) : Prop where
  gen : s.gen ≤ 1099511627776
  t : checkT s.t = 0
  ris : Ris nmE s.ed
  len : s.ed.length ≤ 256
  may : ∀ x ∈ s.ed, mayE k s.t x = true
  nris : Ris nmQ s.names
  nchk : ∀ x ∈ s.names, chkN x = 0
  nlen : s.names.length ≤ 1024
  dlen : s.dirs.length ≤ 1024
  dris : risesX (dirsX s.dirs) 1024 = true
theorem mayE_chk {k : Nat → Int} {t : List Fl} {x : Ed} (h : mayE k t x = true) : chkN x.name = 0 := by
  unfold mayE at h
  simp only [Bool.and_eq_true, decide_eq_true_eq] at h
  exact h.1
theorem mayE_data {k : Nat → Int} {t : List Fl} {x : Ed} (h : mayE k t x = true) : x.data.length ≤ 65536 := by
  unfold mayE at h
  simp only [Bool.and_eq_true, decide_eq_true_eq] at h
  obtain ⟨_, h⟩ := h
  split at h
  · simp only [Bool.and_eq_true, decide_eq_true_eq] at h
    rw [h.2.2]; simp
  · split at h
    · simpa using h
    · simp only [Bool.and_eq_true, decide_eq_true_eq] at h
      omega
theorem mayE_name {k : Nat → Int} {t : List Fl} {x : Ed} {q : S} (h : mayE k t x = true) (hq : chkN q = 0) : mayE k t { x with name := q } = true := by
  unfold mayE at h ⊢
  simp only [Bool.and_eq_true, decide_eq_true_eq] at h ⊢
  exact ⟨hq, h.2⟩
theorem mayE_gone {k : Nat → Int} {t : List Fl} {p : S} (hp : chkN p = 0) : mayE k t (goneE p) = true := by
  unfold mayE goneE
  simp [hp]
theorem mayE_new {k : Nat → Int} {t : List Fl} {p d : S} {r : Nat} (hp : chkN p = 0) (hd : d.length ≤ 65536) : mayE k t ⟨p, false, r, [], d⟩ = true := by
  unfold mayE
  simp [hp, hd]
theorem mayE_what {k : Nat → Int} {s : Sg} {p : S} (o : StOK k s) (hp : chkN p = 0) : mayE k s.t (whatS s p) = true := by
  unfold whatS
  split
  · rename_i x hx
    exact o.may x (getK_mem hx).1
  · split
    · rename_i f hf
      unfold mayE
      simp [hp, chk_ne hp, hf]
    · exact mayE_gone hp
theorem ckE_iff {k : Nat → Int} {t : List Fl} : ∀ {l : List Ed} {q : Option S}, ckE k t q l = true ↔ (∀ x ∈ l, mayE k t x = true) ∧ Ris nmE l ∧ ∀ p, q = some p → ∀ x ∈ l, cmpF p x.name < 0
  | [], q => by unfold ckE; simp [Ris.nil]
  | x :: l, q => by
    unfold ckE
    rw [Bool.and_eq_true, Bool.and_eq_true, ckE_iff (l := l)]
    constructor
    · rintro ⟨h1, h2, h3, h4, h5⟩
      have h6 := h5 _ rfl
      refine ⟨fun y hy => ?_, Ris.cons.2 ⟨h6, h4⟩, fun p hp y hy => ?_⟩
      · rcases List.mem_cons.1 hy with rfl | hy
        · exact h1
        · exact h3 y hy
      · subst hp
        have h2 : cmpF p x.name < 0 := by simpa using h2
        rcases List.mem_cons.1 hy with rfl | hy
        · exact h2
        · exact cmpF_tr h2 (h6 y hy)
    · rintro ⟨h1, h2, h3⟩
      obtain ⟨h4, h5⟩ := Ris.cons.1 h2
      refine ⟨h1 x List.mem_cons_self, ?_, fun y hy => h1 y (List.mem_cons_of_mem _ hy), h5, fun p hp y hy => ?_⟩
      · cases q with
        | none => rfl
        | some p => exact decide_eq_true (h3 p rfl x List.mem_cons_self)
      · injection hp with hp; subst hp
        exact h4 y hy
theorem rise_ris : ∀ {l : List S} {q : Option S}, riseF q l = true → Ris nmQ l ∧ ∀ p, q = some p → ∀ x ∈ l, cmpF p x < 0
  | [], q, _ => ⟨Ris.nil, fun p _ x hx => by simp at hx⟩
  | a :: l, q, h => by
    unfold riseF at h
    rw [Bool.and_eq_true, Bool.and_eq_true, decide_eq_true_eq] at h
    obtain ⟨h1, h2, h3⟩ := h
    obtain ⟨h4, h5⟩ := rise_ris (l := l) h3
    have h6 := h5 _ rfl
    refine ⟨Ris.cons.2 ⟨h6, h4⟩, fun p hp y hy => ?_⟩
    subst hp
    rw [Bool.and_eq_true, decide_eq_true_eq, decide_eq_true_eq] at h2
    obtain ⟨c1, c2⟩ := cmpN_bad h2.1
    have e := h2.2
    rw [cmpN_ok c1 c2] at e
    have h7 : cmpF p a < 0 := by rw [cmpF_clean (chk_ne (chkN_zero.2 c1)) (chk_ne (chkN_zero.2 c2))]; exact e
    rcases List.mem_cons.1 hy with rfl | hy
    · exact h7
    · exact cmpF_tr h7 (h6 y hy)
theorem check_iff {k : Nat → Int} {s : Sg} : checkS k s = 0 ↔ StOK k s := by
  unfold checkS
  constructor
  · intro h
    split at h
    · exact absurd h (by decide)
    · rename_i hn
      split at h
      · rename_i hk
        obtain ⟨k1, k2, _⟩ := ckE_iff.1 hk
        have m : mayX s.names s.dirs = 0 := Decidable.byContradiction fun e => hn (.inr (.inr (.inl e)))
        unfold mayX at m
        split at m
        · rename_i hm
          obtain ⟨m1, m2, m3⟩ := hm
          unfold risesX at m2
          rw [Bool.and_eq_true, decide_eq_true_eq] at m2
          exact ⟨Int.not_lt.1 fun e => hn (.inl e), Decidable.byContradiction fun e => hn (.inr (.inl e)), k2, Nat.not_lt.1 fun e => hn (.inr (.inr (.inr e))), k1, (rise_ris m2.1).1, riseF_mem m2.1, m2.2, m1, m3⟩
        · exact absurd m (by decide)
      · exact absurd h (by decide)
  · intro o
    have m : mayX s.names s.dirs = 0 := by
      unfold mayX
      rw [if_pos ⟨o.dlen, by unfold risesX; rw [rise_of o.nris o.nchk (fun a e => by cases e), decide_eq_true o.nlen]; rfl, o.dris⟩]
    rw [if_neg (by rw [o.t, m]; have := o.gen; have := o.len; omega), if_pos (ckE_iff.2 ⟨o.may, o.ris, fun p e => by cases e⟩)]
theorem StOK.read {k : Nat → Int} {s : Sg} {e : Int} {p : S} (o : StOK k s) (hp : chkN p = 0) : StOK k (readS s e p).1 := by
  unfold readS
  split
  · exact o
  · rename_i h1
    split
    · exact o
    · rename_i h2
      refine ⟨o.gen, o.t, o.ris, o.len, o.may, o.nris.set (fun x hx => by injection hx with hx; exact hx.symm), fun x hx => ?_, ?_, o.dlen, o.dris⟩
      · rcases set_mem.1 hx with e | e
        · injection e with e; rw [← e]; exact hp
        · exact o.nchk x e.1
      · have := set_len (nm := nmQ) (p := p) (k := some p) (l := s.names)
        have h3 := o.nlen
        show (setK nmQ p (some p) s.names).length ≤ 1024
        omega
theorem edit_len {s : Sg} {e : Int} {x : Ed} (h : Ris nmE s.ed) : (setK nmE x.name (some x) s.ed).length = s.ed.length + if (getK nmE x.name s.ed).isSome = true then 0 else 1 := by
  have := congrArg List.length (splitK (nm := nmE) (p := x.name) h)
  conv => rhs; rw [this]
  unfold setK
  cases getK nmE x.name s.ed <;> simp <;> omega
theorem StOK.edit {k : Nat → Int} {s : Sg} {e : Int} {x : Ed} (o : StOK k s) (hx : mayE k s.t x = true) : StOK k (editS s e x).1 := by
  unfold editS
  split
  · exact o
  · split
    · rename_i h2
      refine ⟨o.gen, o.t, o.ris.set (fun y hy => by injection hy with hy; rw [← hy]), ?_, fun y hy => ?_, o.nris, o.nchk, o.nlen, o.dlen, o.dris⟩
      · show (setK nmE x.name (some x) s.ed).length ≤ 256
        have := edit_len (e := 0) (x := x) o.ris
        have h3 := o.len
        rw [this]
        split
        · omega
        · rename_i h4
          rcases h2 with h2 | h2
          · exact absurd h2 h4
          · omega
      · rcases set_mem.1 hy with e | e
        · injection e with e; rw [← e]; exact hx
        · exact o.may y e.1
    · exact o
theorem read_same {s : Sg} {e : Int} {p : S} : (readS s e p).1.ed = s.ed ∧ (readS s e p).1.t = s.t ∧ (readS s e p).1.gen = s.gen ∧ (readS s e p).1.dirs = s.dirs := by
  unfold readS
  split
  · exact ⟨rfl, rfl, rfl, rfl⟩
  · split <;> exact ⟨rfl, rfl, rfl, rfl⟩
theorem read_stuck {s : Sg} {e : Int} {p : S} (h : e ≠ 0) : readS s e p = (s, e) := by unfold readS; rw [if_pos (.inr h)]
theorem read_keep {s : Sg} {e : Int} {p q : S} (o : Ris nmQ s.names) (h : (getK nmQ q s.names).isSome = true) : (getK nmQ q (readS s e p).1.names).isSome = true := by
  unfold readS
  split
  · exact h
  · split
    · exact h
    · show (getK nmQ q (setK nmQ p (some p) s.names)).isSome = true
      rw [get_set o (fun x hx => by injection hx with hx; exact hx.symm)]
      split
      · rfl
      · exact h
theorem read_in {s : Sg} {p : S} (o : Ris nmQ s.names) (h : (readS s 0 p).2 = 0) : (getK nmQ p (readS s 0 p).1.names).isSome = true := by
  unfold readS at h ⊢
  split at h
  · rename_i h1
    rw [if_pos h1]
    rcases h1 with h1 | h1
    · exact h1
    · exact absurd rfl h1
  · rename_i h1
    rw [if_neg h1]
    split at h
    · exact absurd h (show ¬ (6 : Int) = 0 by decide)
    · rename_i h2
      rw [if_neg h2]
      show (getK nmQ p (setK nmQ p (some p) s.names)).isSome = true
      rw [get_set o (fun x hx => by injection hx with hx; exact hx.symm), if_pos rfl]; rfl
theorem edit_same {s : Sg} {e : Int} {x : Ed} : (editS s e x).1.t = s.t ∧ (editS s e x).1.names = s.names ∧ (editS s e x).1.gen = s.gen ∧ (editS s e x).1.dirs = s.dirs := by
  unfold editS; split
  · exact ⟨rfl, rfl, rfl, rfl⟩
  · split <;> exact ⟨rfl, rfl, rfl, rfl⟩
theorem edit_stuck {s : Sg} {e : Int} {x : Ed} (h : e ≠ 0) : editS s e x = (s, e) := by unfold editS; rw [if_pos h]
theorem what_of {s s' : Sg} {p : S} (e : s'.ed = s.ed) (e2 : s'.t = s.t) : whatS s' p = whatS s p := by unfold whatS; rw [e, e2]
theorem start_one {k : Nat → Int} {s : Sg} {p : S} : startS k s [p] = 0 ↔ StOK k s ∧ chkN p = 0 := by
  unfold startS
  simp only [List.foldl_cons, List.foldl_nil]
  rw [← check_iff (k := k)]
  constructor
  · intro h
    split at h
    · rename_i h1; exact ⟨h1, h⟩
    · rename_i h1; exact absurd h h1
  · rintro ⟨h1, h2⟩; rw [if_pos h1]; exact h2
theorem start_two {k : Nat → Int} {s : Sg} {p q : S} : startS k s [p, q] = 0 ↔ StOK k s ∧ chkN p = 0 ∧ chkN q = 0 := by
  unfold startS
  simp only [List.foldl_cons, List.foldl_nil]
  rw [← check_iff (k := k)]
  constructor
  · intro h
    by_cases c : checkS k s = 0
    · rw [if_pos c] at h
      by_cases c2 : chkN p = 0
      · rw [if_pos c2] at h; exact ⟨c, c2, h⟩
      · rw [if_neg c2] at h; exact absurd h c2
    · rw [if_neg c, if_neg c] at h; exact absurd h c
  · rintro ⟨h1, h2, h3⟩; rw [if_pos h1, if_pos h2]; exact h3
end Go.Proofs.YtihgnpboabpchaaGreatDoor
namespace Go.Proofs.YtihgnpboabpchaaGreatDoor
set_option linter.unusedSimpArgs false
set_option linter.unusedVariables false
set_option linter.unnecessarySimpa false
open Go Am
set_option maxRecDepth 100000
theorem StOK.tlen {s : Sg} (o : StOK keyR s) : s.t.length ≤ 256 := (checkT_zero.1 o.t).1
theorem StOK.sz {s : Sg} (o : StOK keyR s) : SzS s := ⟨by have := o.tlen; omega, by have := o.len; omega, by have := o.nlen; omega, by have := o.dlen; omega, fun x hx => by have := mayE_data (o.may x hx); omega⟩
theorem eFind0_ok (p : S) (h : Heap) (b : Nat) :
    ACalls Tryz.prog 111 [EdsV [], StrV p, .one (.clo (.func 88) [] [])] h b 0 (fun r h' => r = .tup [IntV (0 : Nat), BoolV false] ∧ h' = h) :=
  bsed_ok [] (mkS p) 88 (fun k => cmpF k.name p) 0 (by simp) body_88 (fun x hx h b => by cases hx) (Nat.le_refl _) (fun j hj hk => by simp at hj) (fun j hj hk => by simp at hj) _ (by simp) h b
theorem seditBad_ok (e : Int) (x : Ed) (he : e ≠ 0) (h : Heap) (b W : Nat) (hW : W < b) (hw : h W = some ⟨0, seC e⟩) :
    ACalls Tryz.prog 82 [.one (.ptr W 0 0), EdV x] h b 0 (fun r h' => r = .tup [] ∧ h' = h) := by
  refine ACalls.enter Tryz.func82 rfl (by simp [Tryz.ntmps82]) (fun ι w hn H => ?_)
  have hWb : ¬ W = b := by omega
  have nbW : ¬ b = W := by omega
  have c' : (e = 0) = False := eq_false he
  refine Rk ?_
  refine AWP.seqRegD [] [] [] mixed (by kernel_rfl) (by kernel_rfl) (fun K hK => .inl ?_) (by kernel_rfl); simp -implicitDefEqProofs only [go_sem, ↓reduceIte, Nat.reduceEqDiff, Nat.reduceAdd, Nat.reduceLT, Nat.reduceLeDiff, reduceCtorEq, Int.toNat_natCast, hw, hWb, nbW]
  refine CallD.use (eFind0_ok x.name _ _) body_111 ?_
  rintro _ _ ⟨rfl, rfl⟩
  refine ⟨Sub.refl _, ?_⟩
  refine Ev ?_
  refine hK _ _ _ ?_; clear hK K
  refine AWP.block ?_
  refine Rkf (jn3 @hw @hWb @c') ?_
  refine Bt ?_
  refine AWP.skip ?_
  exact Ends.pure hn H Ou (r0 := .tup []) (by rw [show Tryz.f82.results.toList = [] from rfl]; rfl) (frz_tup0 _ _) ⟨rfl, rfl⟩
theorem SR.sw {h h' : Heap} {b W B N D : Nat} {s : Sg} {e : Int} {r0 r : AV} (k : SR h b W B N D s e r0 r h') : SW h' W B N D s e := k.2.1
theorem SR.out {h h' : Heap} {b W B N D : Nat} {s : Sg} {e : Int} {r0 r : AV} (k : SR h b W B N D s e r0 r h') : ∀ id, id < b → id ≠ W → id ≠ B → id ≠ N → id ≠ D → h' id = h id := k.2.2
theorem swhat2_ok {s : Sg} {e : Int} {p : S} (o : StOK keyR s) (hp : chkN p = 0) {h : Heap} {W B N D : Nat} (hw : SW h W B N D s e) (b : Nat) (hW : W < b) (hBb : B < b) :
    ACalls Tryz.prog 59 [.one (.ptr W 0 0), StrV p] h b 0 (fun r h' => r = EdV (whatS s p) ∧ h' = h) :=
  swhat_ok s e p o.sz.t o.ris o.sz.ed o.sz.data (fun x hx => mayE_chk (o.may x hx)) (.inr hp) h b W B N D hW hBb hw
theorem sedit2_ok {s : Sg} {x : Ed} (e : Int) (o : StOK keyR s) (hp : chkN x.name = 0) {h : Heap} {W B N D : Nat} (hw : SW h W B N D s e) (b : Nat) (hW : W < b) (hBb : B < b) (hN : N < b) (hD : D < b) :
    ACalls Tryz.prog 82 [.one (.ptr W 0 0), EdV x] h b 0 (SR h b W B N D (editS s e x).1 (editS s e x).2 (.tup [])) :=
  sedit_ok s e x o.ris o.sz.ed (fun x hx => mayE_chk (o.may x hx)) (.inr hp) h b W B N D hW hBb hN hD hw
theorem smove_ok {s : Sg} {p q : S} (o : StOK keyR s) (hp : chkN p = 0) (hq : chkN q = 0) {h : Heap} {W B N D : Nat} (hw : SW h W B N D s 0) (b : Nat) (hW : W < b) (hBb : B < b) (hN : N < b) (hD : D < b) :
    ACalls Tryz.prog 84 [.one (.ptr W 0 0), StrV p, StrV q] h b 0 (SR h b W B N D (moveS s p q).2.1 (moveS s p q).2.2 (IntV (moveS s p q).1)) := by
  refine ACalls.enter Tryz.func84 rfl (by simp [Tryz.ntmps84]) (fun ι w hn H => ?_)
  have nWb : ¬ W = b := by omega
  have nBb : ¬ B = b := by omega
  have nNb : ¬ N = b := by omega
  have nDb : ¬ D = b := by omega
  obtain ⟨x, hx⟩ : ∃ x, whatS s p = x := ⟨_, rfl⟩
  have hxm : mayE keyR s.t x = true := by rw [← hx]; exact mayE_what o hp
  have fin : ∀ (tt : Nat → AV) (hh : Heap) (n : Nat) (m : Sg) (e v : Int), tt 6 = IntV v → (v, m, e) = moveS s p q → SW hh W B N D m e → (∀ id, id < b → id ≠ W → id ≠ B → id ≠ N → id ≠ D → hh id = h id) → Am.Ends Tryz.prog ⟨Tryz.f84.ntmps, b, ι, h, w, x0⟩ Tryz.f84 0 (SR h b W B N D (moveS s p q).2.1 (moveS s p q).2.2 (IntV (moveS s p q).1)) ⟨tt, hh, n⟩ := by
    intro tt hh n m e v e6 q1 q2 q3
    rw [← q1]
    exact Ends.SR rfl H hW hBb hN hD q2 q3 (by rw [show Tryz.f84.results.toList = [.tmp 6] from rfl]; exact Ecf @e6) (.v _)
  have hsw : ∀ (c : List Cell), SW (upd h b ⟨0, c⟩) W B N D s 0 := fun c => hw.of (upd_ne _ _ _ _ nWb) (upd_ne _ _ _ _ nBb) (upd_ne _ _ _ _ nNb) (upd_ne _ _ _ _ nDb)
  have hout : ∀ (c : List Cell) (id : Nat), id < b → id ≠ W → id ≠ B → id ≠ N → id ≠ D → (upd h b ⟨0, c⟩) id = h id := fun c id hid _ _ _ _ => upd_ne _ _ _ _ (Nat.ne_of_lt hid)
  refine Rk ?_
  refine Rg (fun E K hE hK => ?_)
  refine Us (swhat2_ok o hp hw _ hW hBb) body_59 ?_
  refine Evf @hx ?_
  refine hK _ _ _ ?_; clear hE hK K E
  refine AWP.seq ?_
  refine AWP.block ?_
  cases hg : x.gone
  case true =>
    refine Rkf @hg ?_
    refine Bt ?_
    refine Rk ?_
    refine AWP.ret ?_
    refine Ev ?_
    exact fin _ _ _ s 0 4 (by exact Er) (by unfold moveS; rw [hx, if_pos hg]) (hsw _) (hout _)
  refine Rkf @hg ?_
  refine Bf ?_
  by_cases c : p = q
  · have c' : (p = q) = True := eq_true c
    refine Rkf (jn2 @mkS_list @c') ?_
    refine Bt ?_
    refine Rk ?_
    refine AWP.ret ?_
    refine Ev ?_
    exact fin _ _ _ s 0 0 (by exact Er) (by unfold moveS; rw [hx, if_neg (by rw [hg]; simp), if_pos c]) (hsw _) (hout _)
  have c' : (p = q) = False := eq_false c
  obtain ⟨y, hy⟩ : ∃ y, whatS s q = y := ⟨_, rfl⟩
  refine Rkf (jn2 @mkS_list @c') ?_
  refine Bf ?_
  refine Rg (fun E K hE hK => ?_)
  refine Us (swhat2_ok o hq (hsw _) (b + 1) (show W < b + 1 by omega) (show B < b + 1 by omega)) body_59 ?_
  refine Evf @hy ?_
  refine hK _ _ _ ?_; clear hE hK K E
  cases hg2 : y.gone
  case false =>
    refine Evf @hg2 ?_
    refine Bt ?_
    refine Rk ?_
    refine AWP.ret ?_
    refine Ev ?_
    exact fin _ _ _ s 0 5 (by exact Er) (by unfold moveS; rw [hx, if_neg (by rw [hg]; simp), if_neg c, hy, if_pos hg2]) (hsw _) (hout _)
  refine Evf @hg2 ?_
  refine Bf ?_
  refine AWP.skip ?_
  refine Ev ?_
  have hxe : ({ x with name := q } : Ed) = ⟨q, false, x.rank, x.of, x.data⟩ := by rw [← hg]
  have hmv : moveS s p q = (0, editS (editS s 0 ⟨q, false, x.rank, x.of, x.data⟩).1 (editS s 0 ⟨q, false, x.rank, x.of, x.data⟩).2 (goneE p)) := by unfold moveS; rw [hx, hxe, if_neg (by rw [hg]; simp), if_neg c, hy, if_neg (by rw [hg2]; simp)]
  refine Rk ?_
  have hx1 : mayE keyR s.t ⟨q, false, x.rank, x.of, x.data⟩ = true := by rw [← hxe]; exact mayE_name hxm hq
  have o1 : StOK keyR (editS s 0 ⟨q, false, x.rank, x.of, x.data⟩).1 := o.edit hx1
  refine Rg (fun E K hE hK => ?_)
  refine CallR.use (sedit2_ok (x := ⟨q, false, x.rank, x.of, x.data⟩) 0 o hq (hsw _) (b + 1) (show W < b + 1 by omega) (show B < b + 1 by omega) (show N < b + 1 by omega) (show D < b + 1 by omega)) body_82 ?_
  rintro _ h2 ⟨rfl, hw2, ho2⟩
  refine Ev ?_
  refine hK _ _ _ ?_; clear hE hK K E
  refine Rg (fun E K hE hK => ?_)
  refine CallR.use ((sedit2_ok (x := goneE p) (editS s 0 ⟨q, false, x.rank, x.of, x.data⟩).2 o1 hp hw2 (b + 1) (show W < b + 1 by omega) (show B < b + 1 by omega) (show N < b + 1 by omega) (show D < b + 1 by omega)).argNil ⟨lessV.refl _, ⟨.inl rfl, .inl rfl, .inl rfl, .inl rfl, .nil 1, trivial⟩, trivial⟩) body_82 ?_
  rintro _ h3 ⟨rfl, hw3, ho3⟩
  refine Ev ?_
  refine hK _ _ _ ?_; clear hE hK K E
  refine Rk ?_
  refine AWP.ret ?_
  refine Ev ?_
  refine fin _ _ _ _ _ 0 (by exact Er) hmv.symm hw3 (fun id hid n1 n2 n3 n4 => ?_)
  have q1 : id < b + 1 := Nat.lt_succ_of_lt hid
  exact (ho3 id q1 n1 n2 n3 n4).trans ((ho2 id q1 n1 n2 n3 n4).trans (hout _ id hid n1 n2 n3 n4))
end Go.Proofs.YtihgnpboabpchaaGreatDoor
namespace Go.Proofs.YtihgnpboabpchaaGreatDoor
set_option linter.unusedSimpArgs false
set_option linter.unusedVariables false
set_option linter.unnecessarySimpa false
open Go Am
set_option maxRecDepth 100000
theorem sstartL_ok {s : Sg} {names : List S} (z : SzS s) (hnl : names.length ≤ 1000) (hs : startS keyR s names = 0) {h : Heap} {nb : Nat} (b : Nat) (hnb : nb < b) (hb : h nb = some (rowB 0 (names.map encS) [])) :
    ACalls Tryz.prog 57 [SgV s, .one (.win nb 0 0 names.length names.length)] h b 4 (fun r h' => r = .one (.ptr b 0 0) ∧ SW h' b (b + 1) (b + 2) (b + 3) s 0 ∧ ∀ id, id < b → id ≠ nb → h' id = h id) := by
  have hlm : (names.map encS).length = names.length := List.length_map _
  have vw := view_rowT (h := h) (D := fun i => decide (i = nb)) (id := nb) (ver := 0) (sz := 1) (m := names.length) (j := 0) (off := 0) (cap := names.length) (by simp) hb (okEs_str names) (by rw [hlm]; omega) rfl
  rw [List.drop_zero, ← hlm, List.take_length, hlm] at vw
  refine ((sstart_ok s names z hnl hs (delP h fun i => decide (i = nb)) b).seal _ (.cons (.same _) (.cons (.one vw) .nil))).mono fun r h' ⟨k1, k2, k3⟩ => ⟨k1, k2, fun id hid n => (k3 id hid).trans ?_⟩
  unfold delP
  rw [if_neg (by simp [n])]
theorem sstartBadL_ok {s : Sg} {names : List S} (z : SzS s) (hnl : names.length ≤ 1000) (hs : startS keyR s names ≠ 0) {h : Heap} {nb : Nat} (b : Nat) (hnb : nb < b) (hb : h nb = some (rowB 0 (names.map encS) [])) :
    ACalls Tryz.prog 57 [SgV s, .one (.win nb 0 0 names.length names.length)] h b 1 (fun r h' => r = .one (.ptr b 0 0) ∧ h' b = some ⟨0, seC (startS keyR s names)⟩ ∧ ∀ id, id < b → id ≠ nb → h' id = h id) := by
  have hlm : (names.map encS).length = names.length := List.length_map _
  have vw := view_rowT (h := h) (D := fun i => decide (i = nb)) (id := nb) (ver := 0) (sz := 1) (m := names.length) (j := 0) (off := 0) (cap := names.length) (by simp) hb (okEs_str names) (by rw [hlm]; omega) rfl
  rw [List.drop_zero, ← hlm, List.take_length, hlm] at vw
  refine ((sstartBad_ok s names z hnl hs (delP h fun i => decide (i = nb)) b).seal _ (.cons (.same _) (.cons (.one vw) .nil))).mono fun r h' ⟨k1, k2⟩ => ⟨k1, by rw [k2]; exact upd_same _ _ _, fun id hid n => by
    rw [k2, upd_ne _ _ _ _ (Nat.ne_of_lt hid)]
    unfold delP
    rw [if_neg (by simp [n])]⟩
def endC (h : Heap) (nb W : Nat) (m : Sg) (e : Int) : Prop := ACalls Tryz.prog 60 [.one (.ptr W 0 0)] h nb 0 (fun r h' => r = .tup [SgV m, IntV e] ∧ ∀ id, id < W → h' id = h id)
theorem endC_bad {C5 : List Cell} {e : Int} {h : Heap} {W : Nat} (nb : Nat) (he : e ≠ 0) (hl : C5.length = 5) (hW : W < nb) (hw : h W = some ⟨0, C5 ++ [.p (.v (.int .i64 e))]⟩) : endC h nb W zSg e :=
  (sendBad_ok C5 e he hl h nb W hW hw).mono fun r h' ⟨k1, k2⟩ => ⟨k1, fun id _ => by rw [k2]⟩
theorem endC_ok {s : Sg} {h : Heap} {W : Nat} (nb : Nat) (hW : W + 3 < nb) (hw : SW h W (W + 1) (W + 2) (W + 3) s 0) : endC h nb W s 0 :=
  (sendOk_ok s h nb W (W + 1) (W + 2) (W + 3) (by omega) (by omega) (by omega) (by omega) hw).mono fun r h' ⟨k1, k2⟩ => ⟨k1, fun id hid => k2 id (by omega) (by omega) (by omega) (by omega)⟩
theorem SW.err {h : Heap} {W B N D : Nat} {s : Sg} {e : Int} (hw : SW h W B N D s e) : ∃ C5, C5.length = 5 ∧ h W = some ⟨0, C5 ++ [.p (.v (.int .i64 e))]⟩ := by
  obtain ⟨ev, ec, nv, nc, dv, dc, w1, _⟩ := hw.w
  exact ⟨[_, _, _, _, _], rfl, w1⟩
theorem endC_any {s : Sg} {e : Int} {h : Heap} {W : Nat} (nb : Nat) (hW : W + 3 < nb) (hw : SW h W (W + 1) (W + 2) (W + 3) s e) : endC h nb W (endS (s, e)).1 (endS (s, e)).2 := by
  unfold endS
  by_cases c : e = 0
  · subst c; rw [if_neg (by simp)]; exact endC_ok nb hW hw
  · rw [if_pos c]
    obtain ⟨C5, h1, h2⟩ := hw.err
    exact endC_bad nb c h1 (by omega) h2
theorem subA2 {H : Heap} {x y vx : Nat} {cx c1 : List Cell} (hx : H x = some ⟨vx, cx⟩) (hne : ¬ x = y) : Am.Sub (ers (ers H x) y) (upd H x ⟨vx, c1⟩) := by
  have s := (sub_ers (ers H x) y).trans (sub_ers H x)
  exact s.at (x := ⟨vx, c1⟩) (by rw [ers_lit, if_neg hne, ers_lit, if_pos rfl, hx]; rfl)
theorem subB2 {H : Heap} {x y vx vy : Nat} {cx cy c1 c2 : List Cell} (hx : H x = some ⟨vx, cx⟩) (hy : H y = some ⟨vy, cy⟩) (hne : ¬ x = y) : Am.Sub (ers (ers H x) y) (upd (upd H x ⟨vx, c1⟩) y ⟨vy, c2⟩) :=
  (subA2 (c1 := c1) hx hne).at (x := ⟨vy, c2⟩) (by rw [ers_lit, if_pos rfl, ers_lit, if_neg (fun e => hne e.symm), hy]; rfl)
def zEd : Ed := ⟨[], false, 0, [], []⟩
def edC (x : Ed) (d : PD) : List Cell := [.p (.v (.string (mkS x.name))), .p (.v (.bool x.gone)), .p (.v (.float .f64 x.rank)), .p (.v (.string (mkS x.of))), .p d]
def edD (x : Ed) (d : PD) : Prop := d = .sl 1 (x.data.map encO) ∨ (d = .v (.slice none 0 0) ∧ x.data = [])
theorem frz_edC {x : Ed} {d : PD} (k : edD x d) {h : Heap} {b : Nat} : frzV h b (.agg (edC x d)) (EdV x) := by
  rcases k with rfl | ⟨rfl, e⟩
  · exact frz_psS (encEd x)
  · have := frz_ed0 (h := h) (b := b) x.name x.gone x.rank x.of
    rwa [show (⟨x.name, x.gone, x.rank, x.of, []⟩ : Ed) = x by rw [← e]] at this
def seeM (s : Sg) (p : S) (x : Ed) (h : Heap) (b : Nat) (st : St) : Prop :=
  st.t 1 = StrV p ∧ st.t 2 = .one (.ptr b 0 0) ∧ st.t 4 = .one (.ptr (b + 1) 0 0) ∧ st.t 5 = .one (.ptr (b + 2) 0 0) ∧ st.t 7 = .one (.ptr (b + 4) 0 0) ∧ (∃ v, st.h b = some ⟨0, (encSg v).map .p⟩) ∧
    (∃ d, st.h (b + 1) = some ⟨0, edC x d⟩ ∧ edD x d) ∧ st.h (b + 2) = some ⟨0, [.p (.v (.int .u64 0)), .p (.v (.slice none 0 0)), .p (.v (.slice none 0 0)), .p (.v (.slice none 0 0)), .p (.v (.slice none 0 0))]⟩ ∧ ∀ id, id < b → st.h id = h id
theorem seeM.of {s : Sg} {p : S} {x : Ed} {h : Heap} {b : Nat} {t t' : Nat → AV} {hh hh' : Heap} {n n' : Nat} (k : seeM s p x h b ⟨t, hh, n⟩) (e1 : t' 1 = t 1) (e2 : t' 2 = t 2) (e4 : t' 4 = t 4) (e5 : t' 5 = t 5) (e7 : t' 7 = t 7) (eh : ∀ id, id < b + 4 → hh' id = hh id) : seeM s p x h b ⟨t', hh', n'⟩ := by
  obtain ⟨k1, k2, k4, k5, k7, ⟨v, hb⟩, ⟨d, hd, hd2⟩, h2, ho⟩ := k
  simp only at k1 k2 k4 k5 k7 hb hd h2 ho
  exact ⟨e1.trans k1, e2.trans k2, e4.trans k4, e5.trans k5, e7.trans k7, ⟨v, (eh b (by omega)).trans hb⟩, ⟨d, (eh (b + 1) (by omega)).trans hd, hd2⟩, (eh (b + 2) (by omega)).trans h2, fun id hid => (eh id (by omega)).trans (ho id hid)⟩
theorem ssee_ok (s : Sg) (p : S) (z : SzS s) (h : Heap) (b : Nat) : ACalls Tryz.prog 23 [SgV s, StrV p] h b 0 (fun r h' => r = .tup [EdV (seeS keyR s p).1, SgV (seeS keyR s p).2.1, IntV (seeS keyR s p).2.2] ∧ h' = h) := by
  refine ACalls.enter Tryz.func23 rfl (by simp [Tryz.ntmps23]) (fun ι w hn H => ?_)
  have hlow := H.lowCells
  refine Rk ?_
  refine Am.AWP.mid (fun st => seeM s p zEd h b st ∧ ((startS keyR s [p] ≠ 0 ∧ st.n = 5 ∧ st.h (b + 4) = some ⟨0, seC (startS keyR s [p])⟩) ∨ (startS keyR s [p] = 0 ∧ st.n = 8 ∧ SW st.h (b + 4) (b + 5) (b + 6) (b + 7) s 0))) ?_ ?_
  · by_cases hs : startS keyR s [p] = 0
    · refine Ra (fun E K hE hK => ?_)
      refine CallR.use (sstartL_ok z (by simp) hs (b + 4) (show b + 3 < b + 4 by omega) (upd_same _ _ _)) body_57 ?_
      rintro _ h2 ⟨rfl, k1, k2⟩
      refine hK _ _ _ ?_; clear hE hK K E
      refine ⟨⟨by exact Er, by exact Er, by exact Er, by exact Er, by exact Er, ⟨s, (k2 b (by omega) (by omega)).trans (by exact Er)⟩, ⟨.v (.slice none 0 0), (k2 (b + 1) (by omega) (by omega)).trans (by exact Er), .inr ⟨rfl, rfl⟩⟩, (k2 (b + 2) (by omega) (by omega)).trans (by exact Er), fun id hid => by
        have hid' : id < b := hid
        have q0 : ¬ id = b := by omega
        have q1 : ¬ id = b + 1 := by omega
        have q2 : ¬ id = b + 2 := by omega
        have q3 : ¬ id = b + 3 := by omega
        exact (k2 id (show id < b + 4 by omega) (by omega)).trans (by exact Erf (jn4 @q0 @q1 @q2 @q3))⟩, .inr ⟨hs, rfl, k1⟩⟩
    · refine Ra (fun E K hE hK => ?_)
      refine CallR.use (sstartBadL_ok z (by simp) hs (b + 4) (show b + 3 < b + 4 by omega) (upd_same _ _ _)) body_57 ?_
      rintro _ h2 ⟨rfl, k1, k2⟩
      refine hK _ _ _ ?_; clear hE hK K E
      refine ⟨⟨by exact Er, by exact Er, by exact Er, by exact Er, by exact Er, ⟨s, (k2 b (by omega) (by omega)).trans (by exact Er)⟩, ⟨.v (.slice none 0 0), (k2 (b + 1) (by omega) (by omega)).trans (by exact Er), .inr ⟨rfl, rfl⟩⟩, (k2 (b + 2) (by omega) (by omega)).trans (by exact Er), fun id hid => by
        have hid' : id < b := hid
        have q0 : ¬ id = b := by omega
        have q1 : ¬ id = b + 1 := by omega
        have q2 : ¬ id = b + 2 := by omega
        have q3 : ¬ id = b + 3 := by omega
        exact (k2 id (show id < b + 4 by omega) (by omega)).trans (by exact Erf (jn4 @q0 @q1 @q2 @q3))⟩, .inl ⟨hs, rfl, k1⟩⟩
  rintro ⟨t, h1, n⟩ ⟨hM, hc⟩
  refine Am.AWP.mid (fun st => seeM s p zEd h b st ∧ ((startS keyR s [p] ≠ 0 ∧ st.n = 5 ∧ st.h (b + 4) = some ⟨0, seC (startS keyR s [p])⟩) ∨ (startS keyR s [p] = 0 ∧ st.n = 8 ∧ SW st.h (b + 4) (b + 5) (b + 6) (b + 7) (readS s 0 p).1 (readS s 0 p).2))) ?_ ?_
  · have hM0 := hM
    obtain ⟨e1, _, _, _, e7, _⟩ := hM0
    simp only at e1 e7
    rcases hc with ⟨hs, hn1, hw⟩ | ⟨hs, hn1, hw⟩
    · simp only at hn1 hw; subst hn1
      have c' : (startS keyR s [p] = 0) = False := eq_false hs
      refine Rkf (jn3 @e7 @hw @c') ?_
      refine Bf ?_
      exact AWP.skip ⟨hM.of (by exact Er) (by exact Er) (by exact Er) (by exact Er) (by exact Er) (fun _ _ => rfl), .inl ⟨hs, rfl, hw⟩⟩
    · simp only at hn1 hw; subst hn1
      obtain ⟨o, hp⟩ := start_one.1 hs
      have hw0 := hw
      obtain ⟨ev, ec, nv, nc, dv, dc, w1, _⟩ := hw0.w
      refine Rkf (jn2 @e7 @w1) ?_
      refine Bt ?_
      refine Raf (jn2 @e7 @e1) (fun E K hE hK => ?_)
      refine CallR.use (sread_ok s 0 p o.nris o.sz.nm (fun x hx => .inr (o.nchk x hx)) (.inr hp) _ (b + 8) (b + 4) (b + 5) (b + 6) (b + 7) (by omega) (by omega) (by omega) (by omega) hw) body_58 ?_
      rintro _ h2 ⟨rfl, k1, k2⟩
      refine hK _ _ _ ?_; clear hE hK K E
      exact ⟨hM.of (by exact Er) (by exact Er) (by exact Er) (by exact Er) (by exact Er) (fun id hid => k2 id (by omega) (by omega) (by omega) (by omega) (by omega)), .inr ⟨hs, rfl, k1⟩⟩
  clear hM hc t h1 n
  rintro ⟨t, h1, n⟩ ⟨hM, hc⟩
  refine Am.AWP.mid (fun st => seeM s p (seeS keyR s p).1 h b st ∧ endC st.h (b + st.n) (b + 4) (seeS keyR s p).2.1 (seeS keyR s p).2.2) ?_ ?_
  · have hM0 := hM
    obtain ⟨e1, e2, e4, e5, e7, ⟨v, hb⟩, ⟨d, hd, hd2⟩, hb2, ho⟩ := hM0
    simp only at e1 e2 e4 e5 e7 hb hd hb2 ho
    rcases hc with ⟨hs, hn1, hw⟩ | ⟨hs, hn1, hw⟩
    · simp only at hn1 hw; subst hn1
      have hv : seeS keyR s p = (zEd, zSg, startS keyR s [p]) := by unfold seeS; rw [if_pos hs]; rfl
      rw [hv]
      have c' : (startS keyR s [p] = 0) = False := eq_false hs
      refine Rkf (jn3 @e7 @hw @c') ?_
      refine Bf ?_
      exact AWP.skip ⟨hM.of (by exact Er) (by exact Er) (by exact Er) (by exact Er) (by exact Er) (fun _ _ => rfl), endC_bad (C5 := [.p (.v (.int .u64 0)), .p (.sl 6 []), .p (.sl 5 []), .p (.sl 1 []), .p (.sl 1 [])]) (b + 5) hs rfl (by omega) hw⟩
    · simp only at hn1 hw; subst hn1
      obtain ⟨o, hp⟩ := start_one.1 hs
      have hw0 := hw
      obtain ⟨ev, ec, nv, nc, dv, dc, w1, _⟩ := hw0.w
      by_cases hr : (readS s 0 p).2 = 0
      · have hv : seeS keyR s p = (whatS (readS s 0 p).1 p, (readS s 0 p).1, 0) := by unfold seeS; rw [if_neg (by rw [hs]; simp)]; simp only; rw [if_neg (by rw [hr]; simp)]
        rw [hv]
        have c' : ((readS s 0 p).2 = 0) = True := eq_true hr
        have o1 : StOK keyR (readS s 0 p).1 := o.read hp
        refine Rkf (jn3 @e7 @w1 @c') ?_
        refine Bt ?_
        rw [hr] at hw
        refine AWP.reg (by kernel_rfl) (fun E K hE hK => ?_); simp -implicitDefEqProofs only [go_sem, ↓reduceIte, Nat.reduceEqDiff, Nat.reduceAdd, Nat.reduceLT, Nat.reduceLeDiff, reduceCtorEq, Int.toNat_natCast, e7, e1, e4, hd, edC]
        refine CallR.use (swhat2_ok o1 hp hw (b + 8) (by omega) (by omega)) body_59 ?_
        rintro _ _ ⟨rfl, rfl⟩
        simp -implicitDefEqProofs only [go_sem, ↓reduceIte, Nat.reduceEqDiff, Nat.reduceAdd, Nat.reduceLT, Nat.reduceLeDiff, reduceCtorEq, Int.toNat_natCast, e4, hd, edC, EdV, encEd]
        refine hK _ _ _ ?_; clear hE hK K E
        refine ⟨⟨by exact Erf @e1, by exact Erf @e2, by exact Erf @e4, by exact Erf @e5, by exact Erf @e7, ⟨v, by exact Erf @hb⟩, ⟨_, by exact Er, .inl rfl⟩, by exact Erf @hb2, (Ouf @ho)⟩, ?_⟩
        exact endC_ok (b + 8) (by omega) (hw.of (by exact Er) (by exact Er) (by exact Er) (by exact Er))
      · have hv : seeS keyR s p = (zEd, zSg, (readS s 0 p).2) := by unfold seeS; rw [if_neg (by rw [hs]; simp)]; simp only; rw [if_pos hr]; rfl
        rw [hv]
        have c' : ((readS s 0 p).2 = 0) = False := eq_false hr
        refine Rkf (jn3 @e7 @w1 @c') ?_
        refine Bf ?_
        obtain ⟨C5, q1, q2⟩ := hw.err
        exact AWP.skip ⟨hM.of (by exact Er) (by exact Er) (by exact Er) (by exact Er) (by exact Er) (fun _ _ => rfl), endC_bad (b + 8) hr q1 (by omega) q2⟩
  clear hM hc t h1 n
  rintro ⟨t, h1, n⟩ ⟨hM, hc⟩
  obtain ⟨⟨x, m, e⟩, hv⟩ : ∃ v, seeS keyR s p = v := ⟨_, rfl⟩
  rw [hv] at hM hc ⊢
  simp only at hM hc ⊢
  obtain ⟨e1, e2, e4, e5, e7, ⟨v, hb⟩, ⟨d, hd, hd2⟩, hb2, ho⟩ := hM
  simp only at e1 e2 e4 e5 e7 hb hd hb2 ho
  refine Rgf (jn2 @e7 @hb) (fun E K hE hK => ?_)
  refine CallR.use hc body_60 ?_
  rintro _ h2 ⟨rfl, k2⟩
  have hb' := (k2 b (by omega)).trans hb
  have hd' := (k2 (b + 1) (by omega)).trans hd
  have hb2' := (k2 (b + 2) (by omega)).trans hb2
  simp -implicitDefEqProofs only [go_sem, ↓reduceIte, Nat.reduceEqDiff, Nat.reduceAdd, Nat.reduceLT, Nat.reduceLeDiff, reduceCtorEq, Int.toNat_natCast, e2, hb', SgV, encSg]
  refine hK _ _ _ ?_; clear hE hK K E
  have hb3 : ∀ c, (upd h2 b c) (b + 1) = some ⟨0, edC x d⟩ := fun c => (upd_ne _ _ _ _ (Nat.succ_ne_self b)).trans hd'
  have hb4 : ∀ c, (upd h2 b c) (b + 2) = h2 (b + 2) := fun c => upd_ne _ _ _ _ (by omega)
  refine AWP.seqRegD [34] [] [b + 1, b + 2] mixed (by kernel_rfl) (by kernel_rfl) (fun K hK => .inl ?_) (by kernel_rfl); simp -implicitDefEqProofs only [go_sem, ↓reduceIte, Nat.reduceEqDiff, Nat.reduceAdd, Nat.reduceLT, Nat.reduceLeDiff, reduceCtorEq, Int.toNat_natCast, e2, e4, e5, hd', hb2', edC]
  have okd : ∀ hh : Heap, okC hh (.p d) = true := fun hh => by rcases hd2 with rfl | ⟨rfl, _⟩ <;> rfl
  refine ⟨(sub_ers _ _).trans (sub_ers _ _), by rcases hd2 with rfl | ⟨rfl, _⟩ <;> rfl, subA2 (by (first | (simp -implicitDefEqProofs only [go_sem, ↓reduceIte, Nat.reduceEqDiff, Nat.reduceAdd, Nat.reduceLT, Nat.reduceLeDiff, reduceCtorEq, Int.toNat_natCast, hd', edC]; first | done | rfl) | rfl)) (by omega), subB2 (by (first | (simp -implicitDefEqProofs only [go_sem, ↓reduceIte, Nat.reduceEqDiff, Nat.reduceAdd, Nat.reduceLT, Nat.reduceLeDiff, reduceCtorEq, Int.toNat_natCast, hd', edC]; first | done | rfl) | rfl)) (by exact Erf @hb2') (by omega), ?_⟩
  refine hK _ _ _ ?_; clear hK K
  refine AWP.ret ?_
  exact Ends.pure hn H (fun id hid => (upd_ne _ _ _ _ (Nat.ne_of_lt (Nat.lt_add_right 2 hid))).trans ((upd_ne _ _ _ _ (Nat.ne_of_lt (Nat.lt_add_right 1 hid))).trans ((upd_ne _ _ _ _ (Nat.ne_of_lt hid)).trans ((k2 id (Nat.lt_add_right 4 hid)).trans (ho id hid))))) (r0 := .tup [.agg (edC x d), SgV m, IntV e]) (by rw [show Tryz.f23.results.toList = [.cell 4 67, .cell 5 63, .tmp 6] from rfl]; (first | (simp -implicitDefEqProofs only [go_sem, ↓reduceIte, Nat.reduceEqDiff, Nat.reduceAdd, Nat.reduceLT, Nat.reduceLeDiff, reduceCtorEq, Int.toNat_natCast, e4, e5, edC]; first | done | rfl) | rfl)) (frz_tup3 (frz_edC hd2) (frz_psS _) (.v _)) ⟨rfl, rfl⟩
end Go.Proofs.YtihgnpboabpchaaGreatDoor
namespace Go.Proofs.YtihgnpboabpchaaGreatDoor
set_option linter.unusedSimpArgs false
set_option linter.unusedVariables false
set_option linter.unnecessarySimpa false
open Go Am
abbrev readT (s : Sg) (p q : S) : Sg × Int := readS (readS s 0 p).1 (readS s 0 p).2 q
structure RdOK (k : Nat → Int) (s s1 : Sg) (p q : S) : Prop where
  ok : StOK k s1
  ed : s1.ed = s.ed
  t : s1.t = s.t
  hp : (getK nmQ p s1.names).isSome = true
  hq : (getK nmQ q s1.names).isSome = true
theorem readT_ok {k : Nat → Int} {s : Sg} {p q : S} (o : StOK k s) (hp : chkN p = 0) (hq : chkN q = 0) (h : (readT s p q).2 = 0) : RdOK k s (readT s p q).1 p q := by
  have h1 : (readS s 0 p).2 = 0 := Decidable.byContradiction fun e => by
    unfold readT at h
    rw [read_stuck e] at h
    exact e h
  have o1 := o.read (e := 0) hp
  obtain ⟨a1, a2, _, _⟩ := read_same (s := s) (e := 0) (p := p)
  have i1 := read_in o.nris h1
  unfold readT at h ⊢
  rw [h1] at h ⊢
  obtain ⟨b1, b2, _, _⟩ := read_same (s := (readS s 0 p).1) (e := 0) (p := q)
  exact ⟨o1.read hq, b1.trans a1, b2.trans a2, read_keep o1.nris i1, read_in o1.nris h⟩
theorem mov_inv {k : Nat → Int} {s m : Sg} {p q : S} {how : Int} (h : movS k s p q = (how, m, 0)) : StOK k s ∧ chkN p = 0 ∧ chkN q = 0 ∧ RdOK k s (readT s p q).1 p q ∧ moveS (readT s p q).1 p q = (how, m, 0) := by
  unfold movS at h
  split at h
  · rename_i h1
    injection h with _ h; injection h with _ h
    exact absurd h h1
  · rename_i h1
    obtain ⟨o, hp, hq⟩ := start_two.1 (Decidable.not_not.1 h1)
    simp only at h
    split at h
    · rename_i h2
      injection h with _ h; injection h with _ h
      exact absurd h h2
    · rename_i h2
      have h2' : (readT s p q).2 = 0 := Decidable.not_not.1 h2
      split at h
      · rename_i h3
        injection h with _ h; injection h with _ h
        exact absurd h h3
      · rename_i h3
        injection h with e1 h; injection h with e2 _
        refine ⟨o, hp, hq, readT_ok o hp hq h2', ?_⟩
        exact Prod.ext e1 (Prod.ext e2 (Decidable.not_not.1 h3))
theorem StOK.move {k : Nat → Int} {s : Sg} {p q : S} (o : StOK k s) (hp : chkN p = 0) (hq : chkN q = 0) : StOK k (moveS s p q).2.1 := by
  unfold moveS
  split
  · exact o
  · split
    · exact o
    · split
      · exact o
      · have o1 : StOK k (editS s 0 { whatS s p with name := q }).1 := o.edit (mayE_name (mayE_what o hp) hq)
        exact o1.edit (mayE_gone hp)
theorem mov_ok {k : Nat → Int} {s m : Sg} {p q : S} {how : Int} (h : movS k s p q = (how, m, 0)) : StOK k m := by
  obtain ⟨_, hp, hq, r, e⟩ := mov_inv h
  have := r.ok.move (p := p) (q := q) hp hq
  rw [e] at this
  exact this
theorem see_inv {k : Nat → Int} {s m : Sg} {p : S} {x : Ed} (h : seeS k s p = (x, m, 0)) : StOK k s ∧ chkN p = 0 ∧ (readS s 0 p).2 = 0 ∧ x = whatS s p ∧ m = (readS s 0 p).1 := by
  unfold seeS at h
  split at h
  · rename_i h1
    injection h with _ h; injection h with _ h
    exact absurd h h1
  · rename_i h1
    obtain ⟨o, hp⟩ := start_one.1 (Decidable.not_not.1 h1)
    simp only at h
    split at h
    · rename_i h2
      injection h with _ h; injection h with _ h
      exact absurd h h2
    · rename_i h2
      injection h with e1 h; injection h with e2 _
      obtain ⟨a, b, _, _⟩ := read_same (s := s) (e := 0) (p := p)
      exact ⟨o, hp, Decidable.not_not.1 h2, by rw [← e1, what_of a b], e2.symm⟩
theorem put_inv {k : Nat → Int} {s m : Sg} {p d : S} {r : Nat} (h : putS k s p r d = (m, 0)) : StOK k s ∧ chkN p = 0 ∧ d.length ≤ 65536 ∧ (editS s 0 ⟨p, false, canonE r, [], d⟩).2 = 0 ∧ m = (editS s 0 ⟨p, false, canonE r, [], d⟩).1 := by
  unfold putS at h
  split at h
  · rename_i h1
    injection h with _ h
    exact absurd h h1
  · rename_i h1
    obtain ⟨o, hp⟩ := start_one.1 (Decidable.not_not.1 h1)
    split at h
    · injection h with _ h
      exact absurd h (by decide)
    · rename_i h2
      unfold endS at h
      split at h
      · rename_i h3
        injection h with _ h
        exact absurd h h3
      · rename_i h3
        injection h with h _
        exact ⟨o, hp, by omega, Decidable.not_not.1 h3, h.symm⟩
theorem put_ok {k : Nat → Int} {s m : Sg} {p d : S} {r : Nat} (h : putS k s p r d = (m, 0)) : StOK k m := by
  obtain ⟨o, hp, hd, _, e⟩ := put_inv h
  rw [e]
  exact o.edit (mayE_new hp hd)
def writS (k : Nat → Int) (s : Sg) : List S × Int := if checkS k s ≠ 0 then ([], checkS k s) else (s.ed.map nmE, 0)
end Go.Proofs.YtihgnpboabpchaaGreatDoor
namespace Go.Proofs.YtihgnpboabpchaaGreatDoor
set_option linter.unusedSimpArgs false
set_option linter.unusedVariables false
set_option linter.unnecessarySimpa false
open Go Am
set_option maxRecDepth 100000
theorem movS_bad {s : Sg} {p q : S} (hs : startS keyR s [p, q] ≠ 0) : movS keyR s p q = (0, zSg, startS keyR s [p, q]) := by unfold movS; rw [if_pos hs]
theorem movS_rd {s : Sg} {p q : S} (hs : startS keyR s [p, q] = 0) (hr : (readT s p q).2 ≠ 0) : movS keyR s p q = (0, zSg, (readT s p q).2) := by
  unfold movS
  rw [if_neg (by rw [hs]; simp)]
  simp only
  rw [if_pos hr]
theorem movS_mv {s : Sg} {p q : S} (hs : startS keyR s [p, q] = 0) (hr : (readT s p q).2 = 0) : movS keyR s p q = if (moveS (readT s p q).1 p q).2.2 ≠ 0 then (0, zSg, (moveS (readT s p q).1 p q).2.2) else ((moveS (readT s p q).1 p q).1, (moveS (readT s p q).1 p q).2.1, 0) := by
  unfold movS
  rw [if_neg (by rw [hs]; simp)]
  simp only
  rw [if_neg (by unfold readT at hr; rw [hr]; simp)]
def movM (p q : S) (v : Int) (h : Heap) (b : Nat) (st : St) : Prop :=
  st.t 1 = StrV p ∧ st.t 2 = StrV q ∧ st.t 3 = .one (.ptr b 0 0) ∧ st.t 6 = IntV v ∧ st.t 7 = .one (.ptr (b + 1) 0 0) ∧ st.t 9 = .one (.ptr (b + 3) 0 0) ∧ (∃ v, st.h b = some ⟨0, (encSg v).map .p⟩) ∧
    st.h (b + 1) = some ⟨0, [.p (.v (.int .u64 0)), .p (.v (.slice none 0 0)), .p (.v (.slice none 0 0)), .p (.v (.slice none 0 0)), .p (.v (.slice none 0 0))]⟩ ∧ ∀ id, id < b → st.h id = h id
theorem movM.of {p q : S} {v v' : Int} {h : Heap} {b : Nat} {t t' : Nat → AV} {hh hh' : Heap} {n n' : Nat} (k : movM p q v h b ⟨t, hh, n⟩) (e1 : t' 1 = t 1) (e2 : t' 2 = t 2) (e3 : t' 3 = t 3) (e6 : t' 6 = IntV v') (e7 : t' 7 = t 7) (e9 : t' 9 = t 9) (eh : ∀ id, id < b + 3 → hh' id = hh id) : movM p q v' h b ⟨t', hh', n'⟩ := by
  obtain ⟨k1, k2, k3, k6, k7, k9, ⟨v, hb⟩, h2, ho⟩ := k
  simp only at k1 k2 k3 k6 k7 k9 hb h2 ho
  exact ⟨e1.trans k1, e2.trans k2, e3.trans k3, e6, e7.trans k7, e9.trans k9, ⟨v, (eh b (by omega)).trans hb⟩, (eh (b + 1) (by omega)).trans h2, fun id hid => (eh id (by omega)).trans (ho id hid)⟩
theorem smov_ok (s : Sg) (p q : S) (z : SzS s) (h : Heap) (b : Nat) : ACalls Tryz.prog 34 [SgV s, StrV p, StrV q] h b 0 (fun r h' => r = .tup [IntV (movS keyR s p q).1, SgV (movS keyR s p q).2.1, IntV (movS keyR s p q).2.2] ∧ h' = h) := by
  refine ACalls.enter Tryz.func34 rfl (by simp [Tryz.ntmps34]) (fun ι w hn H => ?_)
  have hlow := H.lowCells
  refine Rk ?_
  refine Am.AWP.mid (fun st => movM p q 0 h b st ∧ ((startS keyR s [p, q] ≠ 0 ∧ st.n = 4 ∧ st.h (b + 3) = some ⟨0, seC (startS keyR s [p, q])⟩) ∨ (startS keyR s [p, q] = 0 ∧ st.n = 7 ∧ SW st.h (b + 3) (b + 4) (b + 5) (b + 6) s 0))) ?_ ?_
  · by_cases hs : startS keyR s [p, q] = 0
    · refine Ra (fun E K hE hK => ?_)
      refine ⟨by decide, ?_⟩
      refine CallR.use (sstartL_ok z (by simp) hs (b + 3) (show b + 2 < b + 3 by omega) (upd_same _ _ _)) body_57 ?_
      rintro _ h2 ⟨rfl, k1, k2⟩
      refine hK _ _ _ ?_; clear hE hK K E
      refine ⟨⟨by exact Er, by exact Er, by exact Er, by exact Er, by exact Er, by exact Er, ⟨s, (k2 b (by omega) (by omega)).trans (by exact Er)⟩, (k2 (b + 1) (by omega) (by omega)).trans (by exact Er), fun id hid => ?_⟩, .inr ⟨hs, rfl, k1⟩⟩
      have hid' : id < b := hid
      have q0 : ¬ id = b := by omega
      have q1 : ¬ id = b + 1 := by omega
      have q2 : ¬ id = b + 2 := by omega
      exact (k2 id (show id < b + 3 by omega) (by omega)).trans (by exact Erf (jn3 @q0 @q1 @q2))
    · refine Ra (fun E K hE hK => ?_)
      refine ⟨by decide, ?_⟩
      refine CallR.use (sstartBadL_ok z (by simp) hs (b + 3) (show b + 2 < b + 3 by omega) (upd_same _ _ _)) body_57 ?_
      rintro _ h2 ⟨rfl, k1, k2⟩
      refine hK _ _ _ ?_; clear hE hK K E
      refine ⟨⟨by exact Er, by exact Er, by exact Er, by exact Er, by exact Er, by exact Er, ⟨s, (k2 b (by omega) (by omega)).trans (by exact Er)⟩, (k2 (b + 1) (by omega) (by omega)).trans (by exact Er), fun id hid => ?_⟩, .inl ⟨hs, rfl, k1⟩⟩
      have hid' : id < b := hid
      have q0 : ¬ id = b := by omega
      have q1 : ¬ id = b + 1 := by omega
      have q2 : ¬ id = b + 2 := by omega
      exact (k2 id (show id < b + 3 by omega) (by omega)).trans (by exact Erf (jn3 @q0 @q1 @q2))
  rintro ⟨t, h1, n⟩ ⟨hM, hc⟩
  refine Am.AWP.mid (fun st => movM p q 0 h b st ∧ ((startS keyR s [p, q] ≠ 0 ∧ st.n = 4 ∧ st.h (b + 3) = some ⟨0, seC (startS keyR s [p, q])⟩) ∨ (startS keyR s [p, q] = 0 ∧ st.n = 7 ∧ SW st.h (b + 3) (b + 4) (b + 5) (b + 6) (readS s 0 p).1 (readS s 0 p).2))) ?_ ?_
  · have hM0 := hM
    obtain ⟨e1, e2, _, e6, _, e9, _⟩ := hM0
    simp only at e1 e2 e6 e9
    rcases hc with ⟨hs, hn1, hw⟩ | ⟨hs, hn1, hw⟩
    · simp only at hn1 hw; subst hn1
      refine Raf (jn2 @e9 @e1) (fun E K hE hK => ?_)
      refine Us (sreadBad_ok _ p hs _ (b + 4) (b + 3) (by omega) hw) body_58 ?_
      refine hK _ _ _ ?_; clear hE hK K E
      exact ⟨hM.of (by exact Er) (by exact Er) (by exact Er) (by exact Erf @e6) (by exact Er) (by exact Er) (fun _ _ => rfl), .inl ⟨hs, rfl, hw⟩⟩
    · simp only at hn1 hw; subst hn1
      obtain ⟨o, hp, hq⟩ := start_two.1 hs
      refine Raf (jn2 @e9 @e1) (fun E K hE hK => ?_)
      refine CallR.use (sread_ok s 0 p o.nris o.sz.nm (fun x hx => .inr (o.nchk x hx)) (.inr hp) _ (b + 7) (b + 3) (b + 4) (b + 5) (b + 6) (by omega) (by omega) (by omega) (by omega) hw) body_58 ?_
      rintro _ h2 ⟨rfl, k1, k2⟩
      refine hK _ _ _ ?_; clear hE hK K E
      exact ⟨hM.of (by exact Er) (by exact Er) (by exact Er) (by exact Erf @e6) (by exact Er) (by exact Er) (fun id hid => k2 id (by omega) (by omega) (by omega) (by omega) (by omega)), .inr ⟨hs, rfl, k1⟩⟩
  clear hM hc t h1 n
  rintro ⟨t, h1, n⟩ ⟨hM, hc⟩
  refine Am.AWP.mid (fun st => movM p q 0 h b st ∧ ((startS keyR s [p, q] ≠ 0 ∧ st.n = 4 ∧ st.h (b + 3) = some ⟨0, seC (startS keyR s [p, q])⟩) ∨ (startS keyR s [p, q] = 0 ∧ st.n = 7 ∧ SW st.h (b + 3) (b + 4) (b + 5) (b + 6) (readT s p q).1 (readT s p q).2))) ?_ ?_
  · have hM0 := hM
    obtain ⟨e1, e2, _, e6, _, e9, _⟩ := hM0
    simp only at e1 e2 e6 e9
    rcases hc with ⟨hs, hn1, hw⟩ | ⟨hs, hn1, hw⟩
    · simp only at hn1 hw; subst hn1
      refine Raf (jn2 @e9 @e2) (fun E K hE hK => ?_)
      refine Us (sreadBad_ok _ q hs _ (b + 4) (b + 3) (by omega) hw) body_58 ?_
      refine hK _ _ _ ?_; clear hE hK K E
      exact ⟨hM.of (by exact Er) (by exact Er) (by exact Er) (by exact Erf @e6) (by exact Er) (by exact Er) (fun _ _ => rfl), .inl ⟨hs, rfl, hw⟩⟩
    · simp only at hn1 hw; subst hn1
      obtain ⟨o, hp, hq⟩ := start_two.1 hs
      have o1 := o.read (e := 0) hp
      refine Raf (jn2 @e9 @e2) (fun E K hE hK => ?_)
      refine CallR.use (sread_ok (readS s 0 p).1 (readS s 0 p).2 q o1.nris o1.sz.nm (fun x hx => .inr (o1.nchk x hx)) (.inr hq) _ (b + 7) (b + 3) (b + 4) (b + 5) (b + 6) (by omega) (by omega) (by omega) (by omega) hw) body_58 ?_
      rintro _ h2 ⟨rfl, k1, k2⟩
      refine hK _ _ _ ?_; clear hE hK K E
      exact ⟨hM.of (by exact Er) (by exact Er) (by exact Er) (by exact Erf @e6) (by exact Er) (by exact Er) (fun id hid => k2 id (by omega) (by omega) (by omega) (by omega) (by omega)), .inr ⟨hs, rfl, k1⟩⟩
  clear hM hc t h1 n
  rintro ⟨t, h1, n⟩ ⟨hM, hc⟩
  refine Am.AWP.mid (fun st => ∃ v, movM p q v h b st ∧ endC st.h (b + st.n) (b + 3) (movS keyR s p q).2.1 (movS keyR s p q).2.2 ∧ (if (movS keyR s p q).2.2 = 0 then v else 0) = (movS keyR s p q).1) ?_ ?_
  · have hM0 := hM
    obtain ⟨e1, e2, e3, e6, e7, e9, ⟨v, hb⟩, hb2, ho⟩ := hM0
    simp only at e1 e2 e3 e6 e7 e9 hb hb2 ho
    rcases hc with ⟨hs, hn1, hw⟩ | ⟨hs, hn1, hw⟩
    · simp only at hn1 hw; subst hn1
      have c' : (startS keyR s [p, q] = 0) = False := eq_false hs
      rw [movS_bad hs]
      refine Rkf (jn3 @e9 @hw @c') ?_
      refine Bf ?_
      exact AWP.skip ⟨0, hM.of (by exact Er) (by exact Er) (by exact Er) (by exact Erf @e6) (by exact Er) (by exact Er) (fun _ _ => rfl), endC_bad (C5 := [.p (.v (.int .u64 0)), .p (.sl 6 []), .p (.sl 5 []), .p (.sl 1 []), .p (.sl 1 [])]) (b + 4) hs rfl (by omega) hw, if_neg hs⟩
    · simp only at hn1 hw; subst hn1
      obtain ⟨o, hp, hq⟩ := start_two.1 hs
      have hw0 := hw
      obtain ⟨ev, ec, nv, nc, dv, dc, w1, _⟩ := hw0.w
      by_cases hr : (readT s p q).2 = 0
      · have o1 : StOK keyR (readT s p q).1 := (readT_ok o hp hq hr).ok
        have c' : ((readT s p q).2 = 0) = True := eq_true hr
        rw [movS_mv hs hr]
        refine Rkf (jn3 @e9 @w1 @c') ?_
        refine Bt ?_
        rw [hr] at hw
        refine Raf (jn3 @e9 @e1 @e2) (fun E K hE hK => ?_)
        refine CallR.use (smove_ok o1 hp hq hw (b + 7) (by omega) (by omega) (by omega) (by omega)) body_84 ?_
        rintro _ h2 ⟨rfl, k1, k2⟩
        refine Ev ?_
        refine hK _ _ _ ?_; clear hE hK K E
        refine ⟨(moveS (readT s p q).1 p q).1, hM.of (by exact Er) (by exact Er) (by exact Er) (by exact Er) (by exact Er) (by exact Er) (fun id hid => k2 id (by omega) (by omega) (by omega) (by omega) (by omega)), ?_, ?_⟩
        · have := endC_any (b + 7) (by omega) k1
          unfold endS at this
          simp only at this
          split
          · rename_i c; rw [if_pos c] at this; exact this
          · rename_i c; rw [if_neg c] at this; exact this
        · by_cases c : (moveS (readT s p q).1 p q).2.2 = 0 <;> simp [c]
      · have c' : ((readT s p q).2 = 0) = False := eq_false hr
        rw [movS_rd hs hr]
        refine Rkf (jn3 @e9 @w1 @c') ?_
        refine Bf ?_
        obtain ⟨C5, q1, q2⟩ := hw.err
        exact AWP.skip ⟨0, hM.of (by exact Er) (by exact Er) (by exact Er) (by exact Erf @e6) (by exact Er) (by exact Er) (fun _ _ => rfl), endC_bad (b + 7) hr q1 (by omega) q2, if_neg hr⟩
  clear hM hc t h1 n
  rintro ⟨t, h1, n⟩ ⟨v0, hM, hc, hv0⟩
  obtain ⟨⟨how, m, e⟩, hv⟩ : ∃ v, movS keyR s p q = v := ⟨_, rfl⟩
  rw [hv] at hc hv0 ⊢
  simp only at hc hv0 ⊢
  obtain ⟨e1, e2, e3, e6, e7, e9, ⟨v, hb⟩, hb2, ho⟩ := hM
  simp only at e1 e2 e3 e6 e7 e9 hb hb2 ho
  refine Rgf (jn2 @e9 @hb) (fun E K hE hK => ?_)
  refine CallR.use hc body_60 ?_
  rintro _ h2 ⟨rfl, k2⟩
  have hb' := (k2 b (by omega)).trans hb
  have hb2' := (k2 (b + 1) (by omega)).trans hb2
  simp -implicitDefEqProofs only [go_sem, ↓reduceIte, Nat.reduceEqDiff, Nat.reduceAdd, Nat.reduceLT, Nat.reduceLeDiff, reduceCtorEq, Int.toNat_natCast, e3, hb', SgV, encSg]
  refine hK _ _ _ ?_; clear hE hK K E
  refine Am.AWP.mid (fun st => st.t 6 = IntV how ∧ st.t 3 = .one (.ptr b 0 0) ∧ st.t 7 = .one (.ptr (b + 1) 0 0) ∧ st.t 10 = IntV e ∧ st.h b = some ⟨0, (encSg m).map .p⟩ ∧ st.h (b + 1) = some ⟨0, [.p (.v (.int .u64 0)), .p (.v (.slice none 0 0)), .p (.v (.slice none 0 0)), .p (.v (.slice none 0 0)), .p (.v (.slice none 0 0))]⟩ ∧ ∀ id, id < b → st.h id = h id) ?_ ?_
  · have hout : ∀ c id, id < b → (upd h2 b c) id = h id := fun c id hid => (upd_ne _ _ _ _ (Nat.ne_of_lt hid)).trans ((k2 id (by omega)).trans (ho id hid))
    by_cases c : e = 0
    · have c' : (e = 0) = True := eq_true c
      rw [if_pos c] at hv0
      subst hv0
      refine Rkf @c' ?_
      refine Bf ?_
      exact AWP.skip ⟨by exact Erf @e6, by exact Erf @e3, by exact Erf @e7, by exact Er, by exact Er, by exact Erf @hb2', hout _⟩
    · have c' : (e = 0) = False := eq_false c
      rw [if_neg c] at hv0
      subst hv0
      refine Rkf @c' ?_
      refine Bt ?_
      refine Ra (fun E K hE hK => ?_); refine hK _ _ _ ?_; clear hE hK K E
      exact ⟨by exact Er, by exact Erf @e3, by exact Erf @e7, by exact Er, by exact Er, by exact Erf @hb2', hout _⟩
  clear hc hv0 e1 e2 e3 e6 e7 e9 hb hb2 ho k2 hb' hb2' h1 h2 t n
  rintro ⟨t, h1, n⟩ ⟨e6, e3, e7, e10, hb, hb2, ho⟩
  simp only at e6 e3 e7 e10 hb hb2 ho
  refine AWP.seqRegD [] [] [b + 1] mixed (by kernel_rfl) (by kernel_rfl) (fun K hK => .inl ?_) (by kernel_rfl); simp -implicitDefEqProofs only [go_sem, ↓reduceIte, Nat.reduceEqDiff, Nat.reduceAdd, Nat.reduceLT, Nat.reduceLeDiff, reduceCtorEq, Int.toNat_natCast, e3, e6, e7, e10, hb, hb2, encSg]
  refine ⟨sub_at _ (by exact Erf @hb2), ?_⟩
  refine hK _ _ _ ?_; clear hK K
  refine AWP.ret ?_
  exact Ends.pure hn H (fun id hid => (upd_ne _ _ _ _ (Nat.ne_of_lt (Nat.lt_add_right 1 hid))).trans (ho id hid)) (r0 := .tup [IntV how, SgV m, IntV e]) (by rw [show Tryz.f34.results.toList = [.tmp 6, .cell 7 63, .tmp 8] from rfl]; exact Erf @e7) (frz_tup3 (.v _) (frz_psS _) (.v _)) ⟨rfl, rfl⟩
end Go.Proofs.YtihgnpboabpchaaGreatDoor
namespace Go.Proofs.YtihgnpboabpchaaGreatDoor
set_option linter.unusedSimpArgs false
set_option linter.unusedVariables false
set_option linter.unnecessarySimpa false
open Go Am
set_option maxRecDepth 100000
theorem frbS_run (args : Array Value) (w : World) : (callFunc 134 args).run Tryz.prog w = ((Extern.MathFloatBits.float64frombits args).run Tryz.prog w).andThen fun v w' => .ok (.value v) w' :=
  run_callFunc_extern (fn := Tryz.f134) Tryz.func134 (by kernel_rfl) (by kernel_rfl) (by kernel_rfl) (e := Extern.MathFloatBits.float64frombits) (by kernel_rfl) args w
theorem frbS_ext {C : Ctx} {h : Heap} {n : Nat} {K : KT} {x : Int} (k : K (.one (.p (.v (.float .f64 x.toNat)))) h n) : ExtK Tryz.prog C 134 [.one (.p (.v (.int .u64 x)))] h n K := by
  intro a w ι Vs I hVs
  obtain ⟨hlen, hVs⟩ := hVs
  match Vs, hlen with
  | [X], _ =>
    have hX := rav_v_inv (hVs 0 _ X rfl rfl)
    subst hX
    refine ⟨.float .f64 x.toNat, w, _, h, n, ι, ?_, k, I, rav_v _, .refl _ _ _ _⟩
    rw [frbS_run]
    rfl
abbrev FltV (x : Nat) : AV := .one (.p (.v (.float .f64 x)))
theorem isNaNS_ok (x : Nat) (h : Heap) (b : Nat) : ACalls Tryz.prog 80 [FltV x] h b 0 (fun r h' => r = BoolV (FloatKind.f64.format.order x x != some .eq) ∧ h' = h) := by
  refine ACalls.enter Tryz.func80 rfl (by simp [Tryz.ntmps80]) (fun ι w hn H => ?_)
  refine Rk ?_
  refine Rk ?_
  refine AWP.ret ?_
  exact Ends.pure hn H (fun _ _ => rfl) (r0 := BoolV (FloatKind.f64.format.order x x != some .eq)) (by rw [show Tryz.f80.results.toList = [.tmp 2] from rfl]; exact Er) (.v _) ⟨rfl, rfl⟩
theorem NaNS_ok (h : Heap) (b : Nat) : ACalls Tryz.prog 81 [] h b 0 (fun r h' => r = FltV 9221120237041090561 ∧ h' = h) := by
  refine ACalls.enter Tryz.func81 rfl (by simp [Tryz.ntmps81]) (fun ι w hn H => ?_)
  refine Rk ?_
  refine Rg (fun E K hE hK => ?_)
  refine CallR.ext (frbS_ext ?_)
  refine Ev ?_
  refine hK _ _ _ ?_; clear hE hK K E
  refine AWP.ret ?_
  exact Ends.pure hn H (fun _ _ => rfl) (r0 := FltV 9221120237041090561) (by rw [show Tryz.f81.results.toList = [.tmp 0] from rfl]; exact Er) (.v _) ⟨rfl, rfl⟩
def putM (p : S) (r : Nat) (d : S) (h : Heap) (b : Nat) (st : St) : Prop :=
  st.t 1 = StrV p ∧ st.t 2 = FltV r ∧ st.t 3 = OctV d ∧ st.t 8 = .one (.ptr (b + 1) 0 0) ∧ st.t 10 = .one (.ptr (b + 3) 0 0) ∧
    st.h (b + 1) = some ⟨0, [.p (.v (.int .u64 0)), .p (.v (.slice none 0 0)), .p (.v (.slice none 0 0)), .p (.v (.slice none 0 0)), .p (.v (.slice none 0 0))]⟩ ∧ ∀ id, id < b → st.h id = h id
theorem putM.of {p d : S} {r r' : Nat} {h : Heap} {b : Nat} {t t' : Nat → AV} {hh hh' : Heap} {n n' : Nat} (k : putM p r d h b ⟨t, hh, n⟩) (e1 : t' 1 = t 1) (e2 : t' 2 = FltV r') (e3 : t' 3 = t 3) (e8 : t' 8 = t 8) (e10 : t' 10 = t 10) (eh : ∀ id, id < b + 3 → hh' id = hh id) : putM p r' d h b ⟨t', hh', n'⟩ := by
  obtain ⟨k1, k2, k3, k8, k10, h2, ho⟩ := k
  simp only at k1 k2 k3 k8 k10 h2 ho
  exact ⟨e1.trans k1, e2, e3.trans k3, e8.trans k8, e10.trans k10, (eh (b + 1) (by omega)).trans h2, fun id hid => (eh id (by omega)).trans (ho id hid)⟩
theorem putS_bad {s : Sg} {p d : S} {r : Nat} (hs : startS keyR s [p] ≠ 0) : putS keyR s p r d = (zSg, startS keyR s [p]) := by unfold putS; rw [if_pos hs]
theorem putS_go {s : Sg} {p d : S} {r : Nat} (hs : startS keyR s [p] = 0) : putS keyR s p r d = endS (editS s (if 65536 < d.length then 3 else 0) ⟨p, false, canonE r, [], d⟩) := by
  unfold putS
  rw [if_neg (by rw [hs]; simp)]
  split
  · rw [edit_stuck (by decide)]; rfl
  · rfl
theorem sputF_ok (s : Sg) (p : S) (r : Nat) (d : S) (hd : d.length ≤ 1000000) (z : SzS s) (h : Heap) (b : Nat) : ACalls Tryz.prog 32 [SgV s, StrV p, FltV r, OctV d] h b 0 (fun v h' => v = .tup [SgV (putS keyR s p r d).1, IntV (putS keyR s p r d).2] ∧ h' = h) := by
  refine ACalls.enter Tryz.func32 rfl (by simp [Tryz.ntmps32]) (fun ι w hn H => ?_)
  have hlow := H.lowCells
  have hdl : (d.map encO).length = d.length := List.length_map _
  refine Rk ?_
  refine Am.AWP.mid (fun st => putM p r d h b st ∧ ((startS keyR s [p] ≠ 0 ∧ st.n = 4 ∧ st.h (b + 3) = some ⟨0, seC (startS keyR s [p])⟩) ∨ (startS keyR s [p] = 0 ∧ st.n = 7 ∧ SW st.h (b + 3) (b + 4) (b + 5) (b + 6) s 0))) ?_ ?_
  · by_cases hs : startS keyR s [p] = 0
    · refine Ra (fun E K hE hK => ?_)
      refine CallR.use (sstartL_ok z (by simp) hs (b + 3) (show b + 2 < b + 3 by omega) (upd_same _ _ _)) body_57 ?_
      rintro _ h2 ⟨rfl, k1, k2⟩
      refine hK _ _ _ ?_; clear hE hK K E
      refine ⟨⟨by exact Er, by exact Er, by exact Er, by exact Er, by exact Er, (k2 (b + 1) (by omega) (by omega)).trans (by exact Er), fun id hid => ?_⟩, .inr ⟨hs, rfl, k1⟩⟩
      have hid' : id < b := hid
      have q0 : ¬ id = b := by omega
      have q1 : ¬ id = b + 1 := by omega
      have q2 : ¬ id = b + 2 := by omega
      exact (k2 id (show id < b + 3 by omega) (by omega)).trans (by exact Erf (jn3 @q0 @q1 @q2))
    · refine Ra (fun E K hE hK => ?_)
      refine CallR.use (sstartBadL_ok z (by simp) hs (b + 3) (show b + 2 < b + 3 by omega) (upd_same _ _ _)) body_57 ?_
      rintro _ h2 ⟨rfl, k1, k2⟩
      refine hK _ _ _ ?_; clear hE hK K E
      refine ⟨⟨by exact Er, by exact Er, by exact Er, by exact Er, by exact Er, (k2 (b + 1) (by omega) (by omega)).trans (by exact Er), fun id hid => ?_⟩, .inl ⟨hs, rfl, k1⟩⟩
      have hid' : id < b := hid
      have q0 : ¬ id = b := by omega
      have q1 : ¬ id = b + 1 := by omega
      have q2 : ¬ id = b + 2 := by omega
      exact (k2 id (show id < b + 3 by omega) (by omega)).trans (by exact Erf (jn3 @q0 @q1 @q2))
  rintro ⟨t, h1, n⟩ ⟨hM, hc⟩
  refine Am.AWP.mid (fun st => putM p r d h b st ∧ ((startS keyR s [p] ≠ 0 ∧ st.n = 4 ∧ st.h (b + 3) = some ⟨0, seC (startS keyR s [p])⟩) ∨ (startS keyR s [p] = 0 ∧ st.n = 7 ∧ SW st.h (b + 3) (b + 4) (b + 5) (b + 6) s (if 65536 < d.length then 3 else 0)))) ?_ ?_
  · have hM0 := hM
    obtain ⟨e1, e2, e3, e8, e10, hb1, ho⟩ := hM0
    simp only at e1 e2 e3 e8 e10 hb1 ho
    rcases hc with ⟨hs, hn1, hw⟩ | ⟨hs, hn1, hw⟩
    · simp only at hn1 hw; subst hn1
      have c' : (startS keyR s [p] = 0) = False := eq_false hs
      refine Rkf (jn3 @e10 @hw @c') ?_
      refine Bf ?_
      exact AWP.skip ⟨hM.of (by exact Er) (by exact Erf @e2) (by exact Er) (by exact Er) (by exact Er) (fun _ _ => rfl), .inl ⟨hs, rfl, hw⟩⟩
    · simp only at hn1 hw; subst hn1
      have hw0 := hw
      obtain ⟨ev, ec, nv, nc, dv, dc, w1, w2, w3, w4⟩ := hw0.w
      by_cases c : (65536 : Int) < d.length
      · have c' : ((65536 : Int) < d.length) = True := eq_true c
        rw [if_pos (show 65536 < d.length by omega)]
        refine Rkf (jn5 @e10 @w1 @e3 @hdl @c') ?_
        refine Bt ?_
        refine Raf (jn2 @e10 @w1) (fun E K hE hK => ?_)
        refine hK _ _ _ ?_; clear hE hK K E
        refine ⟨hM.of (by exact Er) (by exact Erf @e2) (by exact Er) (by exact Er) (by exact Er) (fun id hid => upd_ne _ _ _ _ (Nat.ne_of_lt hid)), .inr ⟨hs, rfl, ⟨ev, ec, nv, nc, dv, dc, upd_same _ _ _, w2.ne (by omega), w3.ne (by omega), w4.ne (by omega)⟩, hw.d1, hw.d2, hw.d3, hw.d4, hw.d5, hw.d6⟩⟩
      · have c' : ((65536 : Int) < d.length) = False := eq_false c
        rw [if_neg (show ¬ 65536 < d.length by omega)]
        refine Rkf (jn5 @e10 @w1 @e3 @hdl @c') ?_
        refine Bf ?_
        exact AWP.skip ⟨hM.of (by exact Er) (by exact Erf @e2) (by exact Er) (by exact Er) (by exact Er) (fun _ _ => rfl), .inr ⟨hs, rfl, hw⟩⟩
  clear hM hc t h1 n
  rintro ⟨t, h1, n⟩ ⟨hM, hc⟩
  refine Am.AWP.mid (fun st => putM p (canonE r) d h b st ∧ ((startS keyR s [p] ≠ 0 ∧ st.n = 4 ∧ st.h (b + 3) = some ⟨0, seC (startS keyR s [p])⟩) ∨ (startS keyR s [p] = 0 ∧ st.n = 7 ∧ SW st.h (b + 3) (b + 4) (b + 5) (b + 6) s (if 65536 < d.length then 3 else 0)))) ?_ ?_
  · have hM0 := hM
    obtain ⟨e1, e2, e3, e8, e10, hb1, ho⟩ := hM0
    simp only at e1 e2 e3 e8 e10 hb1 ho
    cases hnan : (FloatKind.f64.format.order r r != some .eq)
    · have hcr : canonE r = r := by unfold canonE; rw [if_neg (by rw [hnan]; simp)]
      rw [hcr]
      refine Rgf @e2 (fun E K hE hK => ?_)
      refine Us (isNaNS_ok r _ _) body_80 ?_
      refine Evf @hnan ?_
      refine hK _ _ _ ?_; clear hE hK K E
      refine Bf ?_
      exact AWP.skip ⟨hM.of (by exact Er) (by exact Erf @e2) (by exact Er) (by exact Er) (by exact Er) (fun _ _ => rfl), hc⟩
    · have hcr : canonE r = 9221120237041090561 := by unfold canonE; rw [if_pos hnan]
      rw [hcr]
      refine Rgf @e2 (fun E K hE hK => ?_)
      refine Us (isNaNS_ok r _ _) body_80 ?_
      refine Evf @hnan ?_
      refine hK _ _ _ ?_; clear hE hK K E
      refine Bt ?_
      refine Ra (fun E K hE hK => ?_)
      refine Us (NaNS_ok _ _) body_81 ?_
      refine hK _ _ _ ?_; clear hE hK K E
      exact ⟨hM.of (by exact Er) (by exact Er) (by exact Er) (by exact Er) (by exact Er) (fun _ _ => rfl), hc⟩
  clear hM hc t h1 n
  rintro ⟨t, h1, n⟩ ⟨hM, hc⟩
  refine Am.AWP.mid (fun st => putM p (canonE r) d h b st ∧ endC st.h (b + st.n) (b + 3) (putS keyR s p r d).1 (putS keyR s p r d).2) ?_ ?_
  · have hM0 := hM
    obtain ⟨e1, e2, e3, e8, e10, hb1, ho⟩ := hM0
    simp only at e1 e2 e3 e8 e10 hb1 ho
    rcases hc with ⟨hs, hn1, hw⟩ | ⟨hs, hn1, hw⟩
    · simp only at hn1 hw; subst hn1
      rw [putS_bad hs]
      refine Raf (jn4 @e1 @e2 @e3 @e10) (fun E K hE hK => ?_)
      refine CallR.use ((clone_oc_ok (d.map encO) (okEs_oct d) _ _ (by rw [List.length_map]; omega)).rowFrz (okEs_oct d)) body_83 ?_
      rintro _ _ ⟨rfl, rfl⟩
      refine Evf (jn4 @e1 @e2 @e3 @e10) ?_
      refine Us (seditBad_ok _ ⟨p, false, canonE r, [], d⟩ hs _ (b + 4) (b + 3) (by omega) hw) body_82 ?_
      refine hK _ _ _ ?_; clear hE hK K E
      exact ⟨hM.of (by exact Er) (by exact Erf @e2) (by exact Er) (by exact Er) (by exact Er) (fun _ _ => rfl), endC_bad (C5 := [.p (.v (.int .u64 0)), .p (.sl 6 []), .p (.sl 5 []), .p (.sl 1 []), .p (.sl 1 [])]) (b + 4) hs rfl (by omega) hw⟩
    · simp only at hn1 hw; subst hn1
      obtain ⟨o, hp⟩ := start_one.1 hs
      rw [putS_go hs]
      refine Raf (jn4 @e1 @e2 @e3 @e10) (fun E K hE hK => ?_)
      refine CallR.use ((clone_oc_ok (d.map encO) (okEs_oct d) _ _ (by rw [List.length_map]; omega)).rowFrz (okEs_oct d)) body_83 ?_
      rintro _ _ ⟨rfl, rfl⟩
      refine Evf (jn4 @e1 @e2 @e3 @e10) ?_
      refine CallR.use (sedit2_ok (x := ⟨p, false, canonE r, [], d⟩) _ o hp hw (b + 7) (by omega) (by omega) (by omega) (by omega)) body_82 ?_
      rintro _ h2 ⟨rfl, k1, k2⟩
      refine hK _ _ _ ?_; clear hE hK K E
      exact ⟨hM.of (by exact Er) (by exact Erf @e2) (by exact Er) (by exact Er) (by exact Er) (fun id hid => k2 id (by omega) (by omega) (by omega) (by omega) (by omega)), endC_any (b + 7) (by omega) k1⟩
  clear hM hc t h1 n
  rintro ⟨t, h1, n⟩ ⟨hM, hc⟩
  obtain ⟨⟨m, e⟩, hv⟩ : ∃ v, putS keyR s p r d = v := ⟨_, rfl⟩
  rw [hv] at hc ⊢
  simp only at hc ⊢
  obtain ⟨e1, e2, e3, e8, e10, hb1, ho⟩ := hM
  simp only at e1 e2 e3 e8 e10 hb1 ho
  refine Rgf @e10 (fun E K hE hK => ?_)
  refine CallR.use hc body_60 ?_
  rintro _ h2 ⟨rfl, k2⟩
  have hb1' := (k2 (b + 1) (by omega)).trans hb1
  simp -implicitDefEqProofs only [go_sem, ↓reduceIte, Nat.reduceEqDiff, Nat.reduceAdd, Nat.reduceLT, Nat.reduceLeDiff, reduceCtorEq, Int.toNat_natCast, e8, hb1', SgV, encSg]
  refine hK _ _ _ ?_; clear hE hK K E
  refine AWP.ret ?_
  exact Ends.pure hn H (fun id hid => (upd_ne _ _ _ _ (Nat.ne_of_lt (Nat.lt_add_right 1 hid))).trans ((k2 id (Nat.lt_add_right 3 hid)).trans (ho id hid))) (r0 := .tup [SgV m, IntV e]) (by rw [show Tryz.f32.results.toList = [.cell 8 63, .tmp 9] from rfl]; exact Erf @e8) (frz_tup2 (frz_psS _) (.v _)) ⟨rfl, rfl⟩
end Go.Proofs.YtihgnpboabpchaaGreatDoor
namespace Go.Proofs.YtihgnpboabpchaaGreatDoor
set_option linter.unusedSimpArgs false
set_option linter.unusedVariables false
set_option linter.unnecessarySimpa false
open Go Am
set_option maxRecDepth 100000
def wriI (s : Sg) (h : Heap) (b i : Nat) (st : St) : Prop :=
  st.h (b + 1) = some ⟨0, ((s.ed.map nmE).take i ++ List.replicate (s.ed.length - i) []).map strC⟩ ∧ (∀ id, id < b → st.h id = h id) ∧
    st.t 5 = .one (.win (b + 1) 0 0 s.ed.length s.ed.length) ∧ st.t 18 = EdsV s.ed ∧ st.t 19 = IntV s.ed.length ∧ st.t 20 = IntV (i : Nat) ∧ ∃ v, st.h b = some ⟨0, (encSg v).map .p⟩
end Go.Proofs.YtihgnpboabpchaaGreatDoor
namespace Go.Proofs.YtihgnpboabpchaaGreatDoor
set_option linter.unusedSimpArgs false
set_option linter.unusedVariables false
set_option linter.unnecessarySimpa false
open Go Am
set_option maxRecDepth 100000
theorem sin_ok (l : List S) (p : S) (hl : l.length ≤ 1000000) (h : Heap) (b : Nat) : ACalls Tryz.prog 36 [ListV l, StrV p] h b 0 (fun r h' => r = BoolV (decide (p ∈ l)) ∧ h' = h) := by
  refine ACalls.enter Tryz.func36 rfl (by simp [Tryz.ntmps36]) (fun ι w hn H => ?_)
  have hlm : (l.map encS).length = l.length := List.length_map _
  have hlow := H.lowCells
  have fin : ∀ (t : Nat → AV) (n : Nat) (v : Bool), t 4 = BoolV v → v = decide (p ∈ l) → Am.Ends Tryz.prog ⟨Tryz.f36.ntmps, b, ι, h, w, x0⟩ Tryz.f36 0 (fun r h' => r = BoolV (decide (p ∈ l)) ∧ h' = h) ⟨t, h, n⟩ := by
    intro t n v ht hv
    exact Ends.pure hn H (fun _ _ => rfl) (r0 := BoolV v) (by rw [show Tryz.f36.results.toList = [.tmp 4] from rfl]; exact Ecf @ht) (.v _) ⟨by rw [hv], rfl⟩
  refine Rk ?_
  refine AWP.mid (fun st => st.h = h ∧ ¬ p ∈ l) ?_ ?_
  · refine Rkf @hlm ?_
    refine AWP.block ?_
    refine AWP.loopUp 0 l.length (fun i st => st.h = h ∧ st.t 1 = StrV p ∧ st.t 7 = ListV l ∧ st.t 8 = IntV l.length ∧ st.t 9 = IntV (i : Nat) ∧ ¬ p ∈ l.take i) 0 (Nat.zero_le _) rfl ⟨rfl, by exact Er, by exact Er, by exact Er, by exact Er, by simp⟩ ?_
    rintro i ⟨t, hh, n⟩ hi ⟨rfl, e1, e7, e8, e9, hne⟩ hn1
    simp only at e1 e7 e8 e9 hn1
    subst hn1
    refine Rkf (jn2 @e8 @e9) ?_
    refine AWP.seq ?_
    by_cases hlt : (i : Int) < l.length
    · have hi2 : i < l.length := by omega
      have hw1 : IntKind.i64.wrap ((i : Int) + 1) = ((i + 1 : Nat) : Int) := by rw [wrap_i64 (by omega) (by omega)]; rfl
      have hge : (l.map encS).getD i [] = encS l[i] := getD_map encS l i hi2
      have htk : l.take (i + 1) = l.take i ++ [l[i]] := by rw [List.take_add_one, List.getElem?_eq_getElem hi2]; rfl
      obtain ⟨q, hq⟩ : ∃ q, l[i] = q := ⟨_, rfl⟩
      have hqm : q ∈ l := by rw [← hq]; exact List.getElem_mem hi2
      rw [hq] at hge htk
      refine Btf @hlt ?_
      refine AWP.skip ?_
      refine Ev ?_
      refine AWP.seq ?_
      refine AWP.block ?_
      refine Rgf (jn5 @e7 @e9 @hlm @hlt @hge) (fun E K hE hK => ?_)
      refine ⟨by omega, ?_⟩
      refine hK _ _ _ ?_; clear hE hK K E
      by_cases c : q = p
      · have c' : (q = p) = True := eq_true c
        refine Rkf (jn3 @e1 @mkS_list @c') ?_
        refine Bt ?_
        refine Rk ?_
        refine AWP.ret ?_
        refine Ev ?_
        exact fin _ _ true (by exact Er) (by rw [c] at hqm; simp [hqm])
      · have c' : (q = p) = False := eq_false c
        refine Rkf (jn3 @e1 @mkS_list @c') ?_
        refine Bf ?_
        refine AWP.skip ?_
        refine Ev ?_
        refine Raf (jn2 @e9 @hw1) (fun E K hE hK => ?_); refine hK _ _ _ ?_; clear hE hK K E
        exact ⟨hi2, cutH_id rfl (fun _ _ => rfl) hn hlow, by exact Ecf @e1, by exact Erf @e7, by exact Erf @e8, by exact Er, by rw [htk]; simp [hne, Ne.symm c]⟩
    · have hie : i = l.length := by omega
      subst hie
      rw [List.take_length] at hne
      refine Bff @hlt ?_
      refine AWP.exit ?_
      refine Ev ?_
      exact hne
  rintro ⟨t, hh, n⟩ ⟨rfl, hne⟩
  refine Rk ?_
  refine AWP.ret ?_
  exact fin _ _ false (by exact Er) (by simp [hne])
end Go.Proofs.YtihgnpboabpchaaGreatDoor
namespace Go.Proofs.YtihgnpboabpchaaGreatDoor
set_option linter.unusedSimpArgs false
set_option linter.unusedVariables false
set_option linter.unnecessarySimpa false
open Go Am
set_option maxRecDepth 100000
def begS (t : List Fl) (g : Int) : Sg × Int := if checkS keyR ⟨g, t, [], [], []⟩ ≠ 0 then (zSg, checkS keyR ⟨g, t, [], [], []⟩) else (⟨g, t, [], [], []⟩, 0)
theorem frz_sgN {h : Heap} {b : Nat} (g : Int) (t : List Fl) : frzV h b (.agg [.p (.v (.int .u64 g)), .p (.sl 6 (t.map encF)), .p (.v (.slice none 0 0)), .p (.v (.slice none 0 0)), .p (.v (.slice none 0 0))]) (SgV ⟨g, t, [], [], []⟩) := by
  refine .agg rfl (fun i c d hc hd => ?_)
  match i with
  | 0 | 1 => simp at hc hd; subst hc; subst hd; exact frz_p _
  | 2 => simp at hc hd; subst hc; subst hd; exact frz_nil 5
  | 3 => simp at hc hd; subst hc; subst hd; exact frz_nil 1
  | 4 => simp at hc hd; subst hc; subst hd; exact frz_nil 1
  | i + 5 => simp at hc
theorem sbegin_ok (t : List Fl) (g : Int) (ht : t.length ≤ 1000000) (h : Heap) (b : Nat) : ACalls Tryz.prog 30 [FlsV t, .one (.p (.v (.int .u64 g)))] h b 0 (fun r h' => r = .tup [SgV (begS t g).1, IntV (begS t g).2] ∧ h' = h) := by
  refine ACalls.enter Tryz.func30 rfl (by simp [Tryz.ntmps30]) (fun ι w hn H => ?_)
  have htl : (t.map encF).length = t.length := List.length_map _
  refine Rk ?_
  refine Rg (fun E K hE hK => ?_)
  refine CallR.use ((clone_fl_ok (t.map encF) (okEs_fl t) _ _ (by omega)).rowFrz (okEs_fl t)) body_78 ?_
  rintro _ _ ⟨rfl, rfl⟩
  refine Ev ?_
  refine hK _ _ _ ?_; clear hE hK K E
  refine AWP.seq ?_
  refine Rg (fun E K hE hK => ?_)
  refine CallR.use ((sCheck_ok ⟨g, t, [], [], []⟩ ht (by simp) (by simp) (by simp) _ _).argNil ⟨⟨.inl rfl, .inl rfl, .nil 5, .nil 1, .nil 1, trivial⟩, trivial⟩) body_35 ?_
  rintro _ _ ⟨rfl, rfl⟩
  refine Ev ?_
  refine hK _ _ _ ?_; clear hE hK K E
  obtain ⟨e, he⟩ : ∃ e, checkS keyR ⟨g, t, [], [], []⟩ = e := ⟨_, rfl⟩
  rw [he]
  by_cases c : e = 0
  · have c' : (e = 0) = True := eq_true c
    have hv : begS t g = (⟨g, t, [], [], []⟩, 0) := by unfold begS; rw [he, if_neg (by rw [c]; simp)]
    rw [hv]
    refine Rkf @c' ?_
    refine Bs ?_
    refine Rk ?_
    refine AWP.ret ?_
    exact Ends.pure hn H Ou (r0 := .tup [.agg [.p (.v (.int .u64 g)), .p (.sl 6 (t.map encF)), .p (.v (.slice none 0 0)), .p (.v (.slice none 0 0)), .p (.v (.slice none 0 0))], IntV 0]) (by rw [show Tryz.f30.results.toList = [.cell 4 63, .tmp 5] from rfl]; exact Er) (frz_tup2 (frz_sgN g t) (.v _)) ⟨rfl, rfl⟩
  · have c' : (e = 0) = False := eq_false c
    have hv : begS t g = (zSg, e) := by unfold begS; rw [he, if_pos c]
    rw [hv]
    refine Rkf @c' ?_
    refine Bt ?_
    refine Rk ?_
    refine AWP.ret ?_
    refine Ev ?_
    exact Ends.pure hn H Ou (r0 := .tup [.agg [.p (.v (.int .u64 0)), .p (.v (.slice none 0 0)), .p (.v (.slice none 0 0)), .p (.v (.slice none 0 0)), .p (.v (.slice none 0 0))], IntV e]) (by rw [show Tryz.f30.results.toList = [.cell 4 63, .tmp 5] from rfl]; exact Er) (frz_tup2 frz_sg0 (.v _)) ⟨rfl, rfl⟩
def fewE (x : Ed) : Bool := decide (x.name.length ≤ 200) && (decide (x.of.length ≤ 200) && decide (x.data.length ≤ 200))
def fewS (s : Sg) : Bool := s.ed.all fewE && (decide (s.t.length ≤ 30) && (fewT s.t && (decide (s.ed.length ≤ 30) && (fewN s.names && fewN s.dirs))))
theorem fewS_sz {s : Sg} (h : fewS s = true) : SzS s := by
  unfold fewS at h
  simp only [Bool.and_eq_true, decide_eq_true_eq, List.all_eq_true] at h
  obtain ⟨h1, h2, h3, h4, h5, h6⟩ := h
  unfold fewN at h5 h6
  simp only [Bool.and_eq_true, decide_eq_true_eq] at h5 h6
  refine ⟨by omega, by omega, by omega, by omega, fun x hx => ?_⟩
  have := h1 x hx
  unfold fewE at this
  simp only [Bool.and_eq_true, decide_eq_true_eq] at this
  omega
theorem sFew_ok (s : Sg) (ht : s.t.length ≤ 9223372036854775807) (hl : s.ed.length ≤ 9223372036854775807) (hn1 : s.names.length ≤ 9223372036854775807) (hd1 : s.dirs.length ≤ 9223372036854775807) (h : Heap) (b : Nat) : ACalls Tryz.prog 21 [SgV s] h b 0 (fun r h' => r = BoolV (fewS s) ∧ h' = h) := by
  refine ACalls.enter Tryz.func21 rfl (by simp [Tryz.ntmps21]) (fun ι w hn H => ?_)
  have hlow := H.lowCells
  have hlm : (s.ed.map encEd).length = s.ed.length := List.length_map _
  have htl : (s.t.map encF).length = s.t.length := List.length_map _
  have fin : ∀ (t : Nat → AV) (hh : Heap) (n : Nat) (v : Bool), t 2 = BoolV v → (∀ id, id < b → hh id = h id) → v = fewS s → Am.Ends Tryz.prog ⟨Tryz.f21.ntmps, b, ι, h, w, x0⟩ Tryz.f21 0 (fun r h' => r = BoolV (fewS s) ∧ h' = h) ⟨t, hh, n⟩ := by
    intro t hh n v ht ho hv
    exact Ends.pure hn H ho (r0 := BoolV v) (by rw [show Tryz.f21.results.toList = [.tmp 2] from rfl]; exact Ecf @ht) (.v _) ⟨by rw [hv], rfl⟩
  refine Rk ?_
  refine AWP.mid (fun st => (∀ id, id < b → st.h id = h id) ∧ st.t 1 = .one (.ptr b 0 0) ∧ st.h b = some ⟨0, (encSg s).map .p⟩ ∧ s.ed.all fewE = true) ?_ ?_
  · refine Rkf @hlm ?_
    refine AWP.block ?_
    refine AWP.loopUp 1 s.ed.length (fun i st => (∀ id, id < b → st.h id = h id) ∧ st.t 1 = .one (.ptr b 0 0) ∧ st.h b = some ⟨0, (encSg s).map .p⟩ ∧ st.t 6 = EdsV s.ed ∧ st.t 7 = IntV s.ed.length ∧ st.t 8 = IntV (i : Nat) ∧ (s.ed.take i).all fewE = true) 0 (Nat.zero_le _) rfl ⟨Ou, by exact Er, by exact Er, by exact Er, by exact Er, by exact Er, by simp⟩ ?_
    rintro i ⟨t, hh, n⟩ hi ⟨ho, e1, hb, e6, e7, e8, hne⟩ hn1
    simp only at ho e1 hb e6 e7 e8 hn1
    subst hn1
    refine Rkf (jn2 @e7 @e8) ?_
    refine AWP.seq ?_
    by_cases hlt : (i : Int) < s.ed.length
    · have hi2 : i < s.ed.length := by omega
      have hw1 : IntKind.i64.wrap ((i : Int) + 1) = ((i + 1 : Nat) : Int) := by rw [wrap_i64 (by omega) (by omega)]; rfl
      have hge : (s.ed.map encEd).getD i [] = encEd s.ed[i] := encEd_getD s.ed i hi2
      have htk : s.ed.take (i + 1) = s.ed.take i ++ [s.ed[i]] := by rw [List.take_add_one, List.getElem?_eq_getElem hi2]; rfl
      obtain ⟨x, hx⟩ : ∃ x, s.ed[i] = x := ⟨_, rfl⟩
      have hxm : x ∈ s.ed := by rw [← hx]; exact List.getElem_mem hi2
      rw [hx] at hge htk
      have hdl : (x.data.map encO).length = x.data.length := List.length_map _
      have bad : fewE x = false → false = fewS s := fun hb => by
        cases hf : fewS s with
        | false => rfl
        | true =>
          unfold fewS at hf
          rw [Bool.and_eq_true, List.all_eq_true] at hf
          rw [hf.1 x hxm] at hb; cases hb
      refine Btf @hlt ?_
      refine AWP.skip ?_
      refine Ev ?_
      refine AWP.seq ?_
      refine AWP.block ?_
      refine AWP.seqReg (by kernel_rfl) (fun E K hE hK => ?_); simp -implicitDefEqProofs only [go_sem, ↓reduceIte, Nat.reduceEqDiff, Nat.reduceAdd, Nat.reduceLT, Nat.reduceLeDiff, reduceCtorEq, Int.toNat_natCast, e6, e8, hlm, hlt, hge, encEd]
      refine ⟨by omega, ?_⟩
      refine hK _ _ _ ?_; clear hE hK K E
      by_cases c1 : (200 : Int) < x.name.length
      · refine Rkf (jn2 @mkS_size @c1) ?_
        refine Bt ?_
        refine Rk ?_
        refine AWP.ret ?_
        refine Ev ?_
        exact fin _ _ _ false (by exact Er) (Ouf @ho) (bad (by unfold fewE; rw [decide_eq_false (by omega)]; rfl))
      by_cases c2 : (200 : Int) < x.of.length
      · refine Rkf (jn3 @mkS_size @c1 @c2) ?_
        refine Bt ?_
        refine Rk ?_
        refine AWP.ret ?_
        refine Ev ?_
        exact fin _ _ _ false (by exact Er) (Ouf @ho) (bad (by unfold fewE; rw [decide_eq_false (show ¬ x.of.length ≤ 200 by omega)]; simp))
      by_cases c3 : (200 : Int) < x.data.length
      · refine Rkf (jn5 @mkS_size @c1 @c2 @c3 @hdl) ?_
        refine Bt ?_
        refine Rk ?_
        refine AWP.ret ?_
        refine Ev ?_
        exact fin _ _ _ false (by exact Er) (Ouf @ho) (bad (by unfold fewE; rw [decide_eq_false (show ¬ x.data.length ≤ 200 by omega)]; simp))
      refine Rkf (jn5 @mkS_size @c1 @c2 @c3 @hdl) ?_
      refine Bf ?_
      refine AWP.skip ?_
      refine Ev ?_
      refine Raf (jn2 @e8 @hw1) (fun E K hE hK => ?_); refine hK _ _ _ ?_; clear hE hK K E
      exact ⟨(by decide : 1 ≤ 2), hi2, cutH_outer (Nat.le_add_right _ _) (Ouf @ho) hlow, by refine Evf @e1 ?_; exact cutV_ptr (Nat.lt_add_of_pos_right (by decide)), cutH_same (Nat.lt_add_of_pos_right (by decide)) (by exact Erf @hb) (by simp [lowCs, lowC]), by exact Ecf @e6, by exact Ecf @e7, by exact Er, by
        rw [htk, List.all_append, hne, List.all_cons]
        unfold fewE
        rw [decide_eq_true (by omega), decide_eq_true (by omega), decide_eq_true (by omega)]; rfl⟩
    · have hie : i = s.ed.length := by omega
      subst hie
      rw [List.take_length] at hne
      refine Bff @hlt ?_
      refine AWP.exit ?_
      refine Ev ?_
      exact ⟨ho, by exact Ecf @e1, hb, hne⟩
  rintro ⟨t, hh, n⟩ ⟨ho, e1, hb, hne⟩
  simp only at ho e1 hb
  by_cases c1 : (s.t.length : Int) ≤ 30
  case neg =>
    refine AWP.seqReg (by kernel_rfl) (fun E K hE hK => ?_); simp -implicitDefEqProofs only [go_sem, ↓reduceIte, Nat.reduceEqDiff, Nat.reduceAdd, Nat.reduceLT, Nat.reduceLeDiff, reduceCtorEq, Int.toNat_natCast, e1, hb, htl, c1, encSg]; refine hK _ _ _ ?_; clear hE hK K E
    refine AWP.ret ?_
    exact fin _ _ _ false (by exact Er) ho (by unfold fewS; rw [decide_eq_false (show ¬ s.t.length ≤ 30 by omega)]; simp)
  cases c2 : fewT s.t
  · refine AWP.seqReg (by kernel_rfl) (fun E K hE hK => ?_); simp -implicitDefEqProofs only [go_sem, ↓reduceIte, Nat.reduceEqDiff, Nat.reduceAdd, Nat.reduceLT, Nat.reduceLeDiff, reduceCtorEq, Int.toNat_natCast, e1, hb, htl, c1, encSg]
    refine Us (fewT_ok s.t ht _ _) body_55 ?_
    refine Evf @c2 ?_
    refine hK _ _ _ ?_; clear hE hK K E
    refine AWP.ret ?_
    exact fin _ _ _ false (by exact Er) ho (by unfold fewS; rw [c2]; simp)
  by_cases c3 : (s.ed.length : Int) ≤ 30
  case neg =>
    refine AWP.seqReg (by kernel_rfl) (fun E K hE hK => ?_); simp -implicitDefEqProofs only [go_sem, ↓reduceIte, Nat.reduceEqDiff, Nat.reduceAdd, Nat.reduceLT, Nat.reduceLeDiff, reduceCtorEq, Int.toNat_natCast, e1, hb, htl, c1, encSg]
    refine Us (fewT_ok s.t ht _ _) body_55 ?_
    simp -implicitDefEqProofs only [go_sem, ↓reduceIte, Nat.reduceEqDiff, Nat.reduceAdd, Nat.reduceLT, Nat.reduceLeDiff, reduceCtorEq, Int.toNat_natCast, c2, c3, e1, hb, encSg, hlm]
    refine hK _ _ _ ?_; clear hE hK K E
    refine AWP.ret ?_
    exact fin _ _ _ false (by exact Er) ho (by unfold fewS; rw [decide_eq_false (show ¬ s.ed.length ≤ 30 by omega)]; simp)
  cases c4 : fewN s.names
  · refine AWP.seqReg (by kernel_rfl) (fun E K hE hK => ?_); simp -implicitDefEqProofs only [go_sem, ↓reduceIte, Nat.reduceEqDiff, Nat.reduceAdd, Nat.reduceLT, Nat.reduceLeDiff, reduceCtorEq, Int.toNat_natCast, e1, hb, htl, c1, encSg]
    refine Us (fewT_ok s.t ht _ _) body_55 ?_
    simp -implicitDefEqProofs only [go_sem, ↓reduceIte, Nat.reduceEqDiff, Nat.reduceAdd, Nat.reduceLT, Nat.reduceLeDiff, reduceCtorEq, Int.toNat_natCast, c2, c3, e1, hb, encSg, hlm]
    refine Us (fewNames_ok s.names hn1 _ _) body_56 ?_
    refine Evf @c4 ?_
    refine hK _ _ _ ?_; clear hE hK K E
    refine AWP.ret ?_
    exact fin _ _ _ false (by exact Er) ho (by unfold fewS; rw [c4]; simp)
  refine AWP.seqReg (by kernel_rfl) (fun E K hE hK => ?_); simp -implicitDefEqProofs only [go_sem, ↓reduceIte, Nat.reduceEqDiff, Nat.reduceAdd, Nat.reduceLT, Nat.reduceLeDiff, reduceCtorEq, Int.toNat_natCast, e1, hb, htl, c1, encSg]
  refine Us (fewT_ok s.t ht _ _) body_55 ?_
  simp -implicitDefEqProofs only [go_sem, ↓reduceIte, Nat.reduceEqDiff, Nat.reduceAdd, Nat.reduceLT, Nat.reduceLeDiff, reduceCtorEq, Int.toNat_natCast, c2, c3, e1, hb, encSg, hlm]
  refine Us (fewNames_ok s.names hn1 _ _) body_56 ?_
  simp -implicitDefEqProofs only [go_sem, ↓reduceIte, Nat.reduceEqDiff, Nat.reduceAdd, Nat.reduceLT, Nat.reduceLeDiff, reduceCtorEq, Int.toNat_natCast, c4, e1, hb, encSg]
  refine Us (fewNames_ok s.dirs hd1 _ _) body_56 ?_
  refine hK _ _ _ ?_; clear hE hK K E
  refine AWP.ret ?_
  exact fin _ _ _ (fewN s.dirs) (by exact Er) ho (by unfold fewS; rw [hne, c2, c4, decide_eq_true (show s.t.length ≤ 30 by omega), decide_eq_true (show s.ed.length ≤ 30 by omega)]; simp)
end Go.Proofs.YtihgnpboabpchaaGreatDoor
namespace Go.Proofs.YtihgnpboabpchaaGreatDoor
set_option linter.unusedSimpArgs false
set_option linter.unusedVariables false
set_option linter.unnecessarySimpa false
open Go Am
set_option maxRecDepth 100000
abbrev SgL (s : Sg) : List Cell := [.p (.v (.int .u64 s.gen)), .p (.sl 6 (s.t.map encF)), .p (.sl 5 (s.ed.map encEd)), .p (.sl 1 (s.names.map encS)), .p (.sl 1 (s.dirs.map encS))]
abbrev EdL (x : Ed) : List Cell := [.p (.v (.string (mkS x.name))), .p (.v (.bool x.gone)), .p (.v (.float .f64 x.rank)), .p (.v (.string (mkS x.of))), .p (.sl 1 (x.data.map encO))]
def lvB (s1 : Sg × Int) (s2 : Sg × Int) (s3 : Int × Sg × Int) (s4 s5 : Ed × Sg × Int) : Bool :=
  decide (checkS keyR s1.1 = 0) && (decide (s1.2 = 0) && (decide (s2.2 = 0) && (decide (s3.1 = 0) && (decide (s3.2.2 = 0) && (decide (s4.2.2 = 0) && (decide (s5.2.2 = 0) && (decide (s4.1.gone = false) && (decide (s4.1.data = [7]) && decide (s5.1.gone = true)))))))))
def lv1 : Sg × Int := begS [] 3
def lv2 : Sg × Int := putS keyR lv1.1 [97] 4607182418800017408 [7]
def lv3 : Int × Sg × Int := movS keyR lv2.1 [97] [98]
def lv4 : Ed × Sg × Int := seeS keyR lv3.2.1 [98]
def lv5 : Ed × Sg × Int := seeS keyR lv4.2.1 [97]
theorem lv_run : lvB lv1 lv2 lv3 lv4 lv5 = true := by decide +kernel
theorem slive_ok (h : Heap) (b : Nat) : ACalls Tryz.prog 20 [] h b 0 (fun r h' => r = BoolV true ∧ h' = h) := by
  refine ACalls.enter Tryz.func20 rfl (by simp [Tryz.ntmps20]) (fun ι w hn H => ?_)
  have hlv := lv_run
  obtain ⟨⟨s1, e1⟩, h1⟩ : ∃ v, lv1 = v := ⟨_, rfl⟩
  obtain ⟨⟨s2, e2⟩, h2⟩ : ∃ v, lv2 = v := ⟨_, rfl⟩
  obtain ⟨⟨how, s3, e3⟩, h3⟩ : ∃ v, lv3 = v := ⟨_, rfl⟩
  obtain ⟨⟨x4, s4, e4⟩, h4⟩ : ∃ v, lv4 = v := ⟨_, rfl⟩
  obtain ⟨⟨x5, s5, e5⟩, h5⟩ : ∃ v, lv5 = v := ⟨_, rfl⟩
  rw [h1, h2, h3, h4, h5] at hlv
  unfold lvB at hlv
  simp only [Bool.and_eq_true, decide_eq_true_eq] at hlv
  obtain ⟨q0, q1, q2, q3, q4, q5, q6, q7, q8, q9⟩ := hlv
  subst q1; subst q2; subst q3; subst q4; subst q5; subst q6
  have g2 : putS keyR s1 [97] 4607182418800017408 [7] = (s2, 0) := by have := h2; unfold lv2 at this; rw [h1] at this; exact this
  have g3 : movS keyR s2 [97] [98] = (0, s3, 0) := by have := h3; unfold lv3 at this; rw [h2] at this; exact this
  have g4 : seeS keyR s3 [98] = (x4, s4, 0) := by have := h4; unfold lv4 at this; rw [h3] at this; exact this
  have g5 : seeS keyR s4 [97] = (x5, s5, 0) := by have := h5; unfold lv5 at this; rw [h4] at this; exact this
  have o1 : StOK keyR s1 := check_iff.1 q0
  have o2 := put_ok g2
  have o3 := mov_ok g3
  have o4 : StOK keyR s4 := by obtain ⟨o, hp, _, _, e⟩ := see_inv g4; rw [e]; exact o.read hp
  have c1 : ∀ h b, ACalls Tryz.prog 30 [.one (.p (.v (.slice none 0 0))), .one (.p (.v (.int .u64 3)))] h b 0 (fun r h' => r = .tup [.agg (SgL s1), IntV 0] ∧ h' = h) := fun h b => by
    have := sbegin_ok [] 3 (by simp) h b
    rw [show begS [] 3 = (s1, 0) from h1] at this
    exact this.argNil ⟨.nil 6, lessV.refl _, trivial⟩
  have c2 : ∀ h b, ACalls Tryz.prog 32 [.agg (SgL s1), StrV [97], FltV 4607182418800017408, OctV [7]] h b 0 (fun r h' => r = .tup [.agg (SgL s2), IntV 0] ∧ h' = h) := fun h b => by
    have := sputF_ok s1 [97] 4607182418800017408 [7] (by simp) o1.sz h b
    rwa [g2] at this
  have c3 : ∀ h b, ACalls Tryz.prog 34 [.agg (SgL s2), StrV [97], StrV [98]] h b 0 (fun r h' => r = .tup [IntV 0, .agg (SgL s3), IntV 0] ∧ h' = h) := fun h b => by
    have := smov_ok s2 [97] [98] o2.sz h b
    rwa [g3] at this
  have c4 : ∀ h b, ACalls Tryz.prog 23 [.agg (SgL s3), StrV [98]] h b 0 (fun r h' => r = .tup [.agg (EdL x4), .agg (SgL s4), IntV 0] ∧ h' = h) := fun h b => by
    have := ssee_ok s3 [98] o3.sz h b
    rwa [g4] at this
  have c5 : ∀ h b, ACalls Tryz.prog 23 [.agg (SgL s4), StrV [97]] h b 0 (fun r h' => r = .tup [.agg (EdL x5), .agg (SgL s5), IntV 0] ∧ h' = h) := fun h b => by
    have := ssee_ok s4 [97] o4.sz h b
    rwa [g5] at this
  have n7 : octE (x4.data.map encO) = some [7] := by rw [q8]; rfl
  have ho : octT Tryz.prog 38 9 = true := by kernel_rfl
  refine Rk ?_
  refine Rg (fun E K hE hK => ?_)
  refine Us (c1 _ _) body_30 ?_
  refine hK _ _ _ ?_; clear hE hK K E
  refine Rg (fun E K hE hK => ?_)
  refine CallR.use ((c2 _ _).seal (fun i => decide (i = b + 1)) (.cons (.same _) (.cons (.same _) (.cons (.same _) (.cons (.one (view_1 _ rfl (by simp) (upd_same _ _ _))) .nil))))) body_32 ?_
  rintro _ _ ⟨rfl, rfl⟩
  simp -implicitDefEqProofs only [go_sem, ↓reduceIte, Nat.reduceEqDiff, Nat.reduceAdd, Nat.reduceLT, Nat.reduceLeDiff, reduceCtorEq, Int.toNat_natCast, delP]
  refine hK _ _ _ ?_; clear hE hK K E
  refine AWP.seqReg (by kernel_rfl) (fun E K hE hK => ?_); simp -implicitDefEqProofs only [go_sem, ↓reduceIte, Nat.reduceEqDiff, Nat.reduceAdd, Nat.reduceLT, Nat.reduceLeDiff, reduceCtorEq, Int.toNat_natCast, delP]
  refine Us (c3 _ _) body_34 ?_
  try (simp -implicitDefEqProofs only [go_sem, ↓reduceIte, Nat.reduceEqDiff, Nat.reduceAdd, Nat.reduceLT, Nat.reduceLeDiff, reduceCtorEq, Int.toNat_natCast, delP])
  refine hK _ _ _ ?_; clear hE hK K E
  refine AWP.seqReg (by kernel_rfl) (fun E K hE hK => ?_); simp -implicitDefEqProofs only [go_sem, ↓reduceIte, Nat.reduceEqDiff, Nat.reduceAdd, Nat.reduceLT, Nat.reduceLeDiff, reduceCtorEq, Int.toNat_natCast, delP]
  refine Us (c4 _ _) body_23 ?_
  try (simp -implicitDefEqProofs only [go_sem, ↓reduceIte, Nat.reduceEqDiff, Nat.reduceAdd, Nat.reduceLT, Nat.reduceLeDiff, reduceCtorEq, Int.toNat_natCast, delP])
  refine hK _ _ _ ?_; clear hE hK K E
  refine AWP.seqReg (by kernel_rfl) (fun E K hE hK => ?_); simp -implicitDefEqProofs only [go_sem, ↓reduceIte, Nat.reduceEqDiff, Nat.reduceAdd, Nat.reduceLT, Nat.reduceLeDiff, reduceCtorEq, Int.toNat_natCast, delP]
  refine Us (c5 _ _) body_23 ?_
  try (simp -implicitDefEqProofs only [go_sem, ↓reduceIte, Nat.reduceEqDiff, Nat.reduceAdd, Nat.reduceLT, Nat.reduceLeDiff, reduceCtorEq, Int.toNat_natCast, delP])
  refine hK _ _ _ ?_; clear hE hK K E
  have m7 : (([7] : S) = [7]) = True := eq_true rfl
  refine Rgf (jn4 @q7 @q9 @n7 @ho) (fun E K hE hK => ?_)
  try (refine Evf @m7 ?_)
  refine hK _ _ _ ?_; clear hE hK K E
  refine AWP.ret ?_
  refine Ends.pure hn H (fun id hid => ?_) (r0 := BoolV true) (by rw [show Tryz.f20.results.toList = [.tmp 0] from rfl]; exact Er) (.v _) ⟨rfl, rfl⟩
  have hid' : id < b := hid
  simp -implicitDefEqProofs only [go_sem, ↓reduceIte, Nat.reduceEqDiff, Nat.reduceAdd, Nat.reduceLT, Nat.reduceLeDiff, reduceCtorEq, Int.toNat_natCast, delP, show ¬ id = b by omega, show ¬ id = b + 1 by omega, show ¬ id = b + 2 by omega, show ¬ id = b + 3 by omega, show ¬ id = b + 4 by omega, decide_false]
end Go.Proofs.YtihgnpboabpchaaGreatDoor
namespace Go.Proofs.YtihgnpboabpchaaGreatDoor
set_option linter.unusedSimpArgs false
set_option linter.unusedVariables false
set_option linter.unnecessarySimpa false
open Go Am
set_option maxRecDepth 100000
theorem see_c {s : Sg} {p : S} {x : Ed} {m : Sg} {e : Int} (z : SzS s) (hv : seeS keyR s p = (x, m, e)) (h : Heap) (b : Nat) : ACalls Tryz.prog 23 [.agg (SgL s), StrV p] h b 0 (fun r h' => r = .tup [.agg (EdL x), .agg (SgL m), IntV e] ∧ h' = h) := by
  have := ssee_ok s p z h b
  rwa [hv] at this
theorem put_c {s : Sg} {p d : S} {r : Nat} {m : Sg} {e : Int} (z : SzS s) (hd : d.length ≤ 1000000) (hv : putS keyR s p r d = (m, e)) (h : Heap) (b : Nat) : ACalls Tryz.prog 32 [.agg (SgL s), StrV p, FltV r, OctV d] h b 0 (fun v h' => v = .tup [.agg (SgL m), IntV e] ∧ h' = h) := by
  have := sputF_ok s p r d hd z h b
  rwa [hv] at this
end Go.Proofs.YtihgnpboabpchaaGreatDoor
namespace Go.Proofs.YtihgnpboabpchaaGreatDoor
set_option linter.unusedSimpArgs false
set_option linter.unusedVariables false
set_option linter.unnecessarySimpa false
open Go Am
set_option maxRecDepth 100000
def lwI (s : Sg) (p q d : S) (was ws : List S) (how : Int) (h : Heap) (b : Nat) (st : St) : Prop :=
  (∀ id, id < b → st.h id = h id) ∧ st.h b = some ⟨0, SgL s⟩ ∧ st.t 4 = .one (.ptr b 0 0) ∧ st.t 1 = StrV p ∧ st.t 2 = StrV q ∧ st.t 3 = OctV d ∧ st.t 9 = BoolV true ∧ st.t 10 = ListV was ∧ st.t 12 = IntV how ∧ st.t 15 = ListV ws
end Go.Proofs.YtihgnpboabpchaaGreatDoor
namespace Go.Proofs.YtihgnpboabpchaaGreatDoor
set_option linter.unusedSimpArgs false
set_option linter.unusedVariables false
set_option linter.unnecessarySimpa false
def allQ {α : Type} (s : α → α → Bool) : List α → List α → Bool
  | [], [] => true
  | x :: l, y :: m => s x y && allQ s l m
  | _, _ => false
theorem allQ_len {α : Type} {s : α → α → Bool} : ∀ {l m : List α}, l.length ≠ m.length → allQ s l m = false
  | [], [], h => absurd rfl h
  | [], _ :: _, _ => rfl
  | _ :: _, [], _ => rfl
  | x :: l, y :: m, h => by
    show (s x y && allQ s l m) = false
    rw [allQ_len (s := s) (l := l) (m := m) (fun e => h (by rw [List.length_cons, List.length_cons, e]))]
    exact Bool.and_false _
theorem allQ_refl {α : Type} {s : α → α → Bool} : ∀ {l : List α}, (∀ x ∈ l, s x x = true) → allQ s l l = true
  | [], _ => rfl
  | x :: l, h => by
    show (s x x && allQ s l l) = true
    rw [h x List.mem_cons_self, allQ_refl (fun y hy => h y (List.mem_cons_of_mem _ hy))]; rfl
end Go.Proofs.YtihgnpboabpchaaGreatDoor
namespace Go.Proofs.YtihgnpboabpchaaGreatDoor
set_option linter.unusedSimpArgs false
set_option linter.unusedVariables false
set_option linter.unnecessarySimpa false
open Go Am
set_option maxRecDepth 100000
def eqI_ed (g : FuncId) (s : Ed → Ed → Bool) (l m : List Ed) (h : Heap) (b i : Nat) (st : St) : Prop :=
  (∀ id, id < b → st.h id = h id) ∧ st.t 1 = .one (.p (.sl 5 (m.map encEd))) ∧ st.t 2 = .one (.clo (.func g) [] []) ∧ st.t 15 = .one (.p (.sl 5 (l.map encEd))) ∧ st.t 16 = IntV l.length ∧ st.t 17 = IntV (i : Nat) ∧ allQ s l m = allQ s (l.drop i) (m.drop i)
theorem eqf_ed_ok (g : FuncId) (s : Ed → Ed → Bool) (l m : List Ed) (hl : l.length ≤ 1000000) (h : Heap) (b : Nat) (hg : bodyB Tryz.prog g = true)
    (hc : ∀ x ∈ l, ∀ y ∈ m, ∀ h b, ACalls Tryz.prog g [.agg ((encEd x).map .p), .agg ((encEd y).map .p)] h b 0 (fun r h' => r = BoolV (s x y) ∧ h' = h)) :
    ACalls Tryz.prog 90 [.one (.p (.sl 5 (l.map encEd))), .one (.p (.sl 5 (m.map encEd))), .one (.clo (.func g) [] [])] h b 0 (fun r h' => r = BoolV (allQ s l m) ∧ h' = h) := by
  refine ACalls.enter Tryz.func90 rfl (by simp [Tryz.ntmps90]) (fun ι w hn H => ?_)
  have hlow := H.lowCells
  have hlm : (l.map encEd).length = l.length := List.length_map _
  have hmm : (m.map encEd).length = m.length := List.length_map _
  have fin : ∀ (t : Nat → AV) (hh : Heap) (n : Nat) (v : Bool), t 6 = BoolV v → (∀ id, id < b → hh id = h id) → v = allQ s l m → Am.Ends Tryz.prog ⟨Tryz.f90.ntmps, b, ι, h, w, x0⟩ Tryz.f90 0 (fun r h' => r = BoolV (allQ s l m) ∧ h' = h) ⟨t, hh, n⟩ := by
    intro t hh n v ht ho hv
    exact Ends.pure hn H ho (r0 := BoolV v) (by rw [show Tryz.f90.results.toList = [.tmp 6] from rfl]; exact Ecf @ht) (.v _) ⟨by rw [hv], rfl⟩
  refine Rk ?_
  refine AWP.seq ?_
  by_cases hlen : (l.length : Int) = m.length
  case neg =>
    refine Rkf (jn3 @hlm @hmm @hlen) ?_
    refine Bt ?_
    refine Rk ?_
    refine AWP.ret ?_
    refine Ev ?_
    exact fin _ _ _ false (by exact Er) (fun _ _ => rfl) (allQ_len (by omega)).symm
  refine Rkf (jn3 @hlm @hmm @hlen) ?_
  refine Bs ?_
  refine AWP.seq ?_
  refine Rkf @hlm ?_
  refine AWP.block ?_
  refine AWP.loopM 0 (fun k st => ∃ i, i ≤ l.length ∧ k = l.length - i ∧ eqI_ed g s l m h b i st) l.length rfl ⟨0, Nat.zero_le _, rfl, Ou, by exact Er, by exact Er, by exact Er, by exact Er, by exact Er, rfl⟩ ?_
  rintro k ⟨t, hh, n⟩ ⟨i, hi, rfl, ho, e1, e2, e15, e16, e17, hx⟩ hn1
  simp only at ho e1 e2 e15 e16 e17 hn1
  subst hn1
  refine Rkf (jn2 @e16 @e17) ?_
  refine AWP.seq ?_
  by_cases hlt : (i : Int) < l.length
  · have hw1 : IntKind.i64.wrap ((i : Int) + 1) = ((i + 1 : Nat) : Int) := by rw [wrap_i64 (by omega) (by omega)]; rfl
    have hi2 : i < l.length := by omega
    have hi3 : i < m.length := by omega
    have hltm : (i : Int) < m.length := by omega
    have hge : (l.map encEd).getD i [] = encEd l[i] := getD_map encEd l i hi2
    have hgm : (m.map encEd).getD i [] = encEd m[i] := getD_map encEd m i hi3
    obtain ⟨x, hf⟩ : ∃ f, l[i] = f := ⟨_, rfl⟩
    obtain ⟨y, hgy⟩ : ∃ g, m[i] = g := ⟨_, rfl⟩
    have hstep : allQ s (l.drop i) (m.drop i) = (s x y && allQ s (l.drop (i + 1)) (m.drop (i + 1))) := by
      rw [List.drop_eq_getElem_cons hi2, List.drop_eq_getElem_cons hi3, hf, hgy]; rfl
    have hxm : x ∈ l := by rw [← hf]; exact List.getElem_mem hi2
    have hym : y ∈ m := by rw [← hgy]; exact List.getElem_mem hi3
    rw [hf] at hge
    rw [hgy] at hgm
    refine Btf @hlt ?_
    refine AWP.skip ?_
    refine Ev ?_
    refine AWP.seq ?_
    refine AWP.block ?_
    refine AWP.seqReg (by kernel_rfl) (fun E K hE hK => ?_); simp -implicitDefEqProofs only [go_sem, ↓reduceIte, Nat.reduceEqDiff, Nat.reduceAdd, Nat.reduceLT, Nat.reduceLeDiff, reduceCtorEq, Int.toNat_natCast, e15, e17, hlm, hlt, hge, encEd]
    refine ⟨by omega, ?_⟩
    refine hK _ _ _ ?_; clear hE hK K E
    refine AWP.seqReg (by kernel_rfl) (fun E K hE hK => ?_); simp -implicitDefEqProofs only [go_sem, ↓reduceIte, Nat.reduceEqDiff, Nat.reduceAdd, Nat.reduceLT, Nat.reduceLeDiff, reduceCtorEq, Int.toNat_natCast, e1, hmm, hltm, hgm, encEd]
    refine ⟨by omega, ?_⟩
    refine hK _ _ _ ?_; clear hE hK K E
    cases hs : s x y
    · refine Rgf @e2 (fun E K hE hK => ?_)
      refine CallR.use (hc x hxm y hym _ _) hg ?_
      rintro _ _ ⟨rfl, rfl⟩
      refine Evf @hs ?_
      refine hK _ _ _ ?_; clear hE hK K E
      refine Bt ?_
      refine Rk ?_
      refine AWP.ret ?_
      refine Ev ?_
      exact fin _ _ _ false (by exact Er) (Ouf @ho) (by rw [hx, hstep, hs]; rfl)
    · refine Rgf @e2 (fun E K hE hK => ?_)
      refine CallR.use (hc x hxm y hym _ _) hg ?_
      rintro _ _ ⟨rfl, rfl⟩
      refine Evf @hs ?_
      refine hK _ _ _ ?_; clear hE hK K E
      refine Bf ?_
      refine AWP.skip ?_
      refine Ev ?_
      refine Raf (jn2 @e17 @hw1) (fun E K hE hK => ?_); refine hK _ _ _ ?_; clear hE hK K E
      exact ⟨l.length - (i + 1), by omega, i + 1, by omega, rfl, cutH_outer (Nat.le_refl _) (Ouf @ho) hlow, by exact Ecf @e1, by exact Ecf @e2, by exact Ecf @e15, by exact Ecf @e16, by exact Er, by rw [hx, hstep, hs, Bool.true_and]⟩
  · refine Bff @hlt ?_
    refine AWP.exit ?_
    refine Ev ?_
    refine Rk ?_
    refine AWP.ret ?_
    refine fin _ _ _ true (by exact Er) ho ?_
    have h1 : i = l.length := by omega
    have h2 : i = m.length := by omega
    rw [hx, h1, List.drop_length, show l.length = m.length by omega, List.drop_length]; rfl
end Go.Proofs.YtihgnpboabpchaaGreatDoor
namespace Go.Proofs.YtihgnpboabpchaaGreatDoor.PdSt
set_option linter.unusedSimpArgs false
set_option linter.unusedVariables false
set_option linter.unnecessarySimpa false
open Go Am
set_option maxRecDepth 100000
abbrev El := {p : S // okG p}
instance : Inhabited El := ⟨⟨[], .inl rfl⟩⟩
abbrev encQ (x : El) : List PD := encS x.1
abbrev elQ (x : El) : AV := StrV x.1
theorem okEs_q (l : List El) : okEs 1 (l.map encQ) := fun e he => by
  obtain ⟨x, _, rfl⟩ := List.mem_map.1 he
  exact ⟨rfl, fun d hd => by simp at hd; subst hd; rfl⟩
abbrev celQ (d : Array El) (T : List Cell) : List Cell := (d.toList.map encQ).flatten.map .p ++ T
abbrev rowQ (ver : Nat) (d : Array El) (T : List Cell) : Blk := rowB ver (d.toList.map encQ) T
theorem celQ_len (d : Array El) (T : List Cell) : (celQ d T).length = d.size * 1 + T.length := by
  unfold celQ
  rw [List.length_append, List.length_map, okEs_len (okEs_q _), List.length_map, Array.length_toList]
theorem celQ_at (d : Array El) (T : List Cell) (i : Nat) (hi : i < d.size) : List.take 1 (List.drop (i * 1) (celQ d T)) = (encQ d[i]!).map .p :=
  row_part T (okEs_q _) (by
    rw [List.getElem?_map, Array.getElem?_toList, getElem!_pos d i hi, Array.getElem?_eq_getElem hi]; rfl)
theorem celQ_get (d : Array El) (T : List Cell) (i : Nat) (hi : i < d.size) : (celQ d T)[i * 1]? = some (.p (.v (.string (mkS d[i]!.1)))) := by
  have h := celQ_at d T i hi
  have h2 := congrArg (fun l => l[0]?) h
  simpa using h2
theorem celQ_set (d : Array El) (T : List Cell) (i : Nat) (hi : i < d.size) (x : El) : List.take (i * 1) (celQ d T) ++ .p (.v (.string (mkS x.1))) :: List.drop (i * 1 + 1) (celQ d T) = celQ (d.setIfInBounds i x) T := by
  have h := spl_row (es := d.toList.map encQ) (fs := [encQ x]) (i := i) T (okEs_q _) (okEs_q [x]) (by simp; omega)
  have e : (d.setIfInBounds i x).toList = d.toList.take i ++ (x :: d.toList.drop (i + 1)) := by
    rw [Array.toList_setIfInBounds, List.set_eq_take_append_cons_drop, if_pos (by simpa using hi)]
  unfold celQ
  rw [e]
  simpa [spl] using h
abbrev EqC (x y : El) : Prop := (mkS x.val).data.toList = (mkS y.val).data.toList
theorem eqC_iff {x y : El} : EqC x y ↔ x = y := ⟨fun h => Subtype.ext h, fun h => by rw [h]⟩
structure CmpQ (g : FuncId) (z : El → El → Int) : Prop where
  body : bodyB Tryz.prog g = true
  calls : ∀ (x y : El) (h : Heap) (b : Nat), ACalls Tryz.prog g [elQ x, elQ y] h b 0 (fun r h' => r = IntV (z x y) ∧ h' = h)
end Go.Proofs.YtihgnpboabpchaaGreatDoor.PdSt
namespace Go.Proofs.YtihgnpboabpchaaGreatDoor.PdSt
set_option linter.unusedSimpArgs false
set_option linter.unusedVariables false
set_option linter.unnecessarySimpa false
open Go Am
set_option maxRecDepth 100000
theorem swp_size (d : Array El) (i j : Nat) : (Sort.swp d i j).size = d.size := by unfold Sort.swp; simp
abbrev ltZ (z : El → El → Int) (x y : El) : Bool := decide (z x y < 0)
abbrev cloV (g : FuncId) : AV := .one (.clo (.func g) [] [])
abbrev winQ (id ver cap n : Nat) : AV := .one (.win id ver 0 n cap)
abbrev swB (v : Nat) (s : Nat) : Blk := ⟨v, [.p (.v (.int .i64 (s : Int)))]⟩
structure PdAt (h : Heap) (id ver : Nat) (d : Array El) (T : List Cell) : Prop where
  row : h id = some (rowQ ver d T)
  low : lowCs 0 T = true
  size : d.size ≤ 1000000000
theorem PdAt.upd {h : Heap} {id ver : Nat} {d : Array El} {T : List Cell} (k : PdAt h id ver d T) {S : Nat} (hSi : ¬ S = id) (blk : Blk) : PdAt (Am.upd h S blk) id ver d T := ⟨by rw [upd_ne _ _ _ _ (fun e => hSi e.symm)]; exact k.row, k.low, k.size⟩
theorem awp_st {P : Program} {C : Ctx} {c : Code} {Q : Exit → St → Prop} {s : St} (M : St → Prop) (h : M s) (k : ∀ s, M s → AWP P C c Q s) : AWP P C c Q s := k s h
theorem w_add {a c : Nat} (h : a + c < 4611686018427387904) : IntKind.i64.wrap ((a : Int) + (c : Int)) = ((a + c : Nat) : Int) := by rw [wrap_i64 (by omega) (by omega)]; omega
theorem w_add1 {a : Nat} (h : a < 4611686018427387904) : IntKind.i64.wrap ((a : Int) + 1) = ((a + 1 : Nat) : Int) := by rw [wrap_i64 (by omega) (by omega)]; omega
theorem w_sub {a c : Nat} (h : c ≤ a) (ha : a < 4611686018427387904) : IntKind.i64.wrap ((a : Int) - (c : Int)) = ((a - c : Nat) : Int) := by rw [wrap_i64 (by omega) (by omega)]; omega
theorem w_sub1 {a : Nat} (h : 1 ≤ a) (ha : a < 4611686018427387904) : IntKind.i64.wrap ((a : Int) - 1) = ((a - 1 : Nat) : Int) := by rw [wrap_i64 (by omega) (by omega)]; omega
theorem order2_ok {g : FuncId} {z : El → El → Int} (cm : CmpQ g z) {h : Heap} {b id ver cap : Nat} {d : Array El} {T : List Cell} (k : PdAt h id ver d T) (a c S sv s : Nat) (ha : a < d.size) (hc : c < d.size) (hS : S < b) (hSi : ¬ S = id) (hs : h S = some (swB sv s)) (hsl : s ≤ 1000000) :
    ACalls Tryz.prog 219 [winQ id ver cap d.size, IntV a, IntV c, .one (.ptr S sv 0), cloV g] h b 0
      (fun r h' => r = .tup [IntV (Sort.order2 (ltZ z) d a c s).1, IntV (Sort.order2 (ltZ z) d a c s).2.1] ∧ h' = upd h S (swB sv (Sort.order2 (ltZ z) d a c s).2.2)) := by
  refine ACalls.enter Tryz.func219 rfl (by simp [Tryz.ntmps219]) (fun ι w hn H => ?_)
  have hpa := celQ_get d T a ha
  have hpc := celQ_get d T c hc
  have hb' : h id = some ⟨ver, celQ d T⟩ := k.row
  have hL := celQ_len d T
  have hia : (a : Int) < d.size := by omega
  have hic : (c : Int) < d.size := by omega
  generalize celQ d T = L at hpa hpc hb' hL
  obtain ⟨x, hx⟩ : ∃ x, d[a]! = x := ⟨_, rfl⟩
  obtain ⟨y, hy⟩ : ∃ y, d[c]! = y := ⟨_, rfl⟩
  rw [hx] at hpa
  rw [hy] at hpc
  refine Rk ?_
  refine AWP.seq ?_
  refine AWP.seqRegD [] [] [] mixed (by kernel_rfl) (by kernel_rfl) (fun K hK => .inl ?_) (by kernel_rfl); simp -implicitDefEqProofs only [go_sem, ↓reduceIte, Nat.reduceEqDiff, Nat.reduceAdd, Nat.reduceLT, Nat.reduceLeDiff, reduceCtorEq, Int.toNat_natCast, hb', hpa, hpc, hia, hic]
  repeat (refine ⟨by omega, ?_⟩)
  refine Ud (cm.calls y x _ _) cm.body ?_
  have hw := w_add1 (a := s) (by omega)
  by_cases hlt : z y x < 0
  · have e : Sort.order2 (ltZ z) d a c s = (c, a, s + 1) := by unfold Sort.order2; rw [hx, hy, if_pos (by simp [hlt])]
    refine hK _ _ _ ?_; clear hK K
    refine Btf @hlt ?_
    refine Rkf (jn2 @hs @hw) ?_
    refine Rk ?_
    refine AWP.ret ?_
    refine Ev ?_
    refine Ends.turn hn H hS (blk := swB sv (s + 1)) (fun i hi => ?_) rfl (r0 := .tup [IntV c, IntV a]) (by rw [show Tryz.f219.results.toList = [.tmp 10, .tmp 11] from rfl]; exact Er) (frz_tup2 (.v _) (.v _)) ⟨by rw [e], by rw [e]⟩
    rfl
  · have e : Sort.order2 (ltZ z) d a c s = (a, c, s) := by unfold Sort.order2; rw [hx, hy, if_neg (by simp [hlt])]
    refine hK _ _ _ ?_; clear hK K
    refine Bsf @hlt ?_
    refine Rk ?_
    refine AWP.ret ?_
    refine Ev ?_
    refine Ends.turn hn H hS (blk := swB sv s) (fun i hi => ?_) rfl (r0 := .tup [IntV a, IntV c]) (by rw [show Tryz.f219.results.toList = [.tmp 10, .tmp 11] from rfl]; exact Er) (frz_tup2 (.v _) (.v _)) ⟨by rw [e], by rw [e]⟩
    by_cases e : i = S
    · subst e; rw [upd_same, ← hs]
    · rw [upd_ne _ _ _ _ e]
theorem order2_lt {lt : El → El → Bool} {d : Array El} {a c s n : Nat} (ha : a < n) (hc : c < n) : (Sort.order2 lt d a c s).1 < n ∧ (Sort.order2 lt d a c s).2.1 < n ∧ (Sort.order2 lt d a c s).2.2 ≤ s + 1 := by
  unfold Sort.order2
  split
  · exact ⟨hc, ha, Nat.le_refl _⟩
  · exact ⟨ha, hc, Nat.le_succ _⟩
theorem median_lt {lt : El → El → Bool} {d : Array El} {a c e s n : Nat} (ha : a < n) (hc : c < n) (he : e < n) : (Sort.median lt d a c e s).1 < n ∧ (Sort.median lt d a c e s).2 ≤ s + 3 := by
  obtain ⟨a1, a2, a3⟩ := order2_lt (lt := lt) (d := d) (s := s) ha hc
  obtain ⟨b1, b2, b3⟩ := order2_lt (lt := lt) (d := d) (s := (Sort.order2 lt d a c s).2.2) a2 he
  obtain ⟨c1, c2, c3⟩ := order2_lt (lt := lt) (d := d) (s := (Sort.order2 lt d (Sort.order2 lt d a c s).2.1 e (Sort.order2 lt d a c s).2.2).2.2) a1 b1
  unfold Sort.median
  exact ⟨c2, Nat.le_trans c3 (by omega)⟩
theorem medianAdj_lt {lt : El → El → Bool} {d : Array El} {a s n : Nat} (ha : a + 1 < n) : (Sort.medianAdjacent lt d a s).1 < n ∧ (Sort.medianAdjacent lt d a s).2 ≤ s + 3 :=
  median_lt (by omega) (by omega) ha
theorem median_ok {g : FuncId} {z : El → El → Int} (cm : CmpQ g z) {h : Heap} {b id ver cap : Nat} {d : Array El} {T : List Cell} (k : PdAt h id ver d T) (a c e S sv s : Nat) (ha : a < d.size) (hc : c < d.size) (he : e < d.size) (hS : S < b) (hSi : ¬ S = id) (hs : h S = some (swB sv s)) (hsl : s ≤ 100000) :
    ACalls Tryz.prog 201 [winQ id ver cap d.size, IntV a, IntV c, IntV e, .one (.ptr S sv 0), cloV g] h b 0
      (fun r h' => r = IntV (Sort.median (ltZ z) d a c e s).1 ∧ h' = upd h S (swB sv (Sort.median (ltZ z) d a c e s).2)) := by
  refine ACalls.enter Tryz.func201 rfl (by simp [Tryz.ntmps201]) (fun ι w hn H => ?_)
  obtain ⟨a1, a2, a3⟩ := order2_lt (lt := ltZ z) (d := d) (s := s) ha hc
  obtain ⟨r1, hr1⟩ : ∃ r, Sort.order2 (ltZ z) d a c s = r := ⟨_, rfl⟩
  rw [hr1] at a1 a2 a3
  obtain ⟨b1, b2, b3⟩ := order2_lt (lt := ltZ z) (d := d) (s := r1.2.2) a2 he
  obtain ⟨r2, hr2⟩ : ∃ r, Sort.order2 (ltZ z) d r1.2.1 e r1.2.2 = r := ⟨_, rfl⟩
  rw [hr2] at b1 b2 b3
  obtain ⟨r3, hr3⟩ : ∃ r, Sort.order2 (ltZ z) d r1.1 r2.1 r2.2.2 = r := ⟨_, rfl⟩
  have hm : Sort.median (ltZ z) d a c e s = (r3.2.1, r3.2.2) := by unfold Sort.median; simp only [hr1, hr2, hr3]
  have k2 := order2_ok cm (b := b + 0) (cap := cap) k a c S sv s ha hc hS hSi hs (by omega)
  have k3 := order2_ok cm (b := b + 0) (cap := cap) (k.upd hSi (swB sv r1.2.2)) r1.2.1 e S sv r1.2.2 a2 he hS hSi (upd_same _ _ _) (by omega)
  have k4 := order2_ok cm (b := b + 0) (cap := cap) (k.upd hSi (swB sv r2.2.2)) r1.1 r2.1 S sv r2.2.2 a1 b1 hS hSi (upd_same _ _ _) (by omega)
  rw [hr1] at k2
  rw [hr2] at k3
  rw [hr3] at k4
  clear hr1 hr2 hr3
  refine Rk ?_
  refine Rg (fun E K hE hK => ?_)
  refine Us k2 body_219 ?_
  refine hK _ _ _ ?_; clear hE hK K E
  refine Rg (fun E K hE hK => ?_)
  refine Us k3 body_219 ?_
  refine hK _ _ _ ?_; clear hE hK K E
  refine Rg (fun E K hE hK => ?_)
  refine Us k4 body_219 ?_
  refine hK _ _ _ ?_; clear hE hK K E
  refine Rk ?_
  refine AWP.ret ?_
  refine Ev ?_
  refine Ends.turn hn H hS (blk := swB sv r3.2.2) (fun i hi => ?_) rfl (r0 := IntV r3.2.1) (by rw [show Tryz.f201.results.toList = [.tmp 12] from rfl]; exact Er) (.v _) ⟨by rw [hm], by rw [hm]⟩
  rfl
theorem medianAdjacent_ok {g : FuncId} {z : El → El → Int} (cm : CmpQ g z) {h : Heap} {b id ver cap : Nat} {d : Array El} {T : List Cell} (k : PdAt h id ver d T) (a S sv s : Nat) (ha : 1 ≤ a) (hc : a + 1 < d.size) (hS : S < b) (hSi : ¬ S = id) (hs : h S = some (swB sv s)) (hsl : s ≤ 100000) :
    ACalls Tryz.prog 200 [winQ id ver cap d.size, IntV a, .one (.ptr S sv 0), cloV g] h b 0
      (fun r h' => r = IntV (Sort.medianAdjacent (ltZ z) d a s).1 ∧ h' = upd h S (swB sv (Sort.medianAdjacent (ltZ z) d a s).2)) := by
  refine ACalls.enter Tryz.func200 rfl (by simp [Tryz.ntmps200]) (fun ι w hn H => ?_)
  have hz := k.size
  have k1 := median_ok cm (b := b + 0) (cap := cap) k (a - 1) a (a + 1) S sv s (by omega) (by omega) hc hS hSi hs hsl
  have e1 := w_sub1 (a := a) ha (by omega)
  have e2 := w_add1 (a := a) (by omega)
  refine Rk ?_
  refine Rgf (jn2 @e1 @e2) (fun E K hE hK => ?_)
  refine Us k1 body_201 ?_
  refine hK _ _ _ ?_; clear hE hK K E
  refine AWP.ret ?_
  refine Ev ?_
  exact Ends.turn hn H hS (blk := swB sv (Sort.medianAdjacent (ltZ z) d a s).2) (fun i hi => rfl) rfl (r0 := IntV (Sort.medianAdjacent (ltZ z) d a s).1) (by rw [show Tryz.f200.results.toList = [.tmp 8] from rfl]; exact Er) (.v _) ⟨rfl, rfl⟩
end Go.Proofs.YtihgnpboabpchaaGreatDoor.PdSt
namespace Go.Proofs.YtihgnpboabpchaaGreatDoor.PdSt
set_option linter.unusedSimpArgs false
set_option linter.unusedVariables false
set_option linter.unnecessarySimpa false
open Go Am
set_option maxRecDepth 100000
def hintN : Sort.Hint → Nat
  | .unknown => 0
  | .increasing => 1
  | .decreasing => 2
theorem w_quo4 {a : Nat} (h : a < 4611686018427387904) : IntKind.i64.wrap (Int.tdiv (a : Int) 4) = ((a / 4 : Nat) : Int) := by rw [Int.tdiv_eq_ediv_of_nonneg (by omega), wrap_i64 (by omega) (by omega)]; omega
theorem w_quo2 {a : Nat} (h : a < 4611686018427387904) : IntKind.i64.wrap (Int.tdiv (a : Int) 2) = ((a / 2 : Nat) : Int) := by rw [Int.tdiv_eq_ediv_of_nonneg (by omega), wrap_i64 (by omega) (by omega)]; omega
theorem w_quo8 {a : Nat} (h : a < 4611686018427387904) : IntKind.i64.wrap (Int.tdiv (a : Int) 8) = ((a / 8 : Nat) : Int) := by rw [Int.tdiv_eq_ediv_of_nonneg (by omega), wrap_i64 (by omega) (by omega)]; omega
def chM (h : Heap) (b id ver cap m : Nat) (g : FuncId) (i j k s : Nat) (st : St) : Prop :=
  st.n = 1 ∧ st.h b = some (swB 0 s) ∧ (∀ x, x < b → st.h x = h x) ∧ st.t 0 = winQ id ver cap m ∧ st.t 3 = cloV g ∧ st.t 11 = .one (.ptr b 0 0) ∧ st.t 12 = IntV i ∧ st.t 13 = IntV j ∧ st.t 14 = IntV k
def chR (lt : El → El → Bool) (d : Array El) (l i j k : Nat) : Nat × Nat :=
  if l ≥ 8 then
    if l ≥ 50 then
      Sort.median lt d (Sort.medianAdjacent lt d i 0).1 (Sort.medianAdjacent lt d j (Sort.medianAdjacent lt d i 0).2).1 (Sort.medianAdjacent lt d k (Sort.medianAdjacent lt d j (Sort.medianAdjacent lt d i 0).2).2).1 (Sort.medianAdjacent lt d k (Sort.medianAdjacent lt d j (Sort.medianAdjacent lt d i 0).2).2).2
    else Sort.median lt d i j k 0
  else (j, 0)
theorem choose_eq (lt : El → El → Bool) (d : Array El) (a e : Nat) : Sort.choosePivot lt d a e = ((chR lt d (e - a) (a + (e - a) / 4 * 1) (a + (e - a) / 4 * 2) (a + (e - a) / 4 * 3)).1, if (chR lt d (e - a) (a + (e - a) / 4 * 1) (a + (e - a) / 4 * 2) (a + (e - a) / 4 * 3)).2 = 0 then .increasing else if (chR lt d (e - a) (a + (e - a) / 4 * 1) (a + (e - a) / 4 * 2) (a + (e - a) / 4 * 3)).2 = 12 then .decreasing else .unknown) := rfl
theorem choosePivot_ok {g : FuncId} {z : El → El → Int} (cm : CmpQ g z) {h : Heap} {b id ver cap : Nat} {d : Array El} {T : List Cell} (k : PdAt h id ver d T) (hid : id < b) (a e : Nat) (hae : a < e) (he : e ≤ d.size) :
    ACalls Tryz.prog 162 [winQ id ver cap d.size, IntV a, IntV e, cloV g] h b 0
      (fun r h' => r = .tup [IntV (Sort.choosePivot (ltZ z) d a e).1, IntV (hintN (Sort.choosePivot (ltZ z) d a e).2)] ∧ h' = h) := by
  refine ACalls.enter Tryz.func162 rfl (by simp [Tryz.ntmps162]) (fun ι w hn H => ?_)
  have hz := k.size
  rw [choose_eq]
  obtain ⟨l, hl⟩ : ∃ l, e - a = l := ⟨_, rfl⟩
  rw [hl]
  obtain ⟨q, hq⟩ : ∃ q, l / 4 = q := ⟨_, rfl⟩
  rw [hq]
  have w1 : IntKind.i64.wrap ((e : Int) - (a : Int)) = (l : Int) := by rw [w_sub (by omega) (by omega)]; omega
  have w2 : IntKind.i64.wrap (Int.tdiv (l : Int) 4) = (q : Int) := by rw [w_quo4 (by omega)]; omega
  have m1 : IntKind.i64.wrap ((q : Int) * 1) = ((q * 1 : Nat) : Int) := by rw [wrap_i64 (by omega) (by omega)]; omega
  have m2 : IntKind.i64.wrap ((q : Int) * 2) = ((q * 2 : Nat) : Int) := by rw [wrap_i64 (by omega) (by omega)]; omega
  have m3 : IntKind.i64.wrap ((q : Int) * 3) = ((q * 3 : Nat) : Int) := by rw [wrap_i64 (by omega) (by omega)]; omega
  have p1 := w_add (a := a) (c := q * 1) (by omega)
  have p2 := w_add (a := a) (c := q * 2) (by omega)
  have p3 := w_add (a := a) (c := q * 3) (by omega)
  obtain ⟨i, hi⟩ : ∃ i, a + q * 1 = i := ⟨_, rfl⟩
  obtain ⟨j, hj⟩ : ∃ j, a + q * 2 = j := ⟨_, rfl⟩
  obtain ⟨c, hc⟩ : ∃ c, a + q * 3 = c := ⟨_, rfl⟩
  rw [hi] at p1 ⊢
  rw [hj] at p2 ⊢
  rw [hc] at p3 ⊢
  have hbi : ¬ b = id := by omega
  have h40 : ¬ (4 : Int) = 0 := by decide
  refine Rk ?_
  refine Rkf @w1 ?_
  refine Rk ?_
  refine Rkf (jn4 @w2 @m1 @p1 @h40) ?_
  refine Rkf (jn4 @w2 @m2 @p2 @h40) ?_
  refine Rkf (jn4 @w2 @m3 @p3 @h40) ?_
  have hil : a + q * 3 + q ≤ e := by omega
  obtain ⟨r, hr⟩ : ∃ r, chR (ltZ z) d l i j c = r := ⟨_, rfl⟩
  have hj2 : j < e := by omega
  rw [hr]
  refine AWP.mid (fun st => ∃ i' k', chM h b id ver cap d.size g i' r.1 k' r.2 st) ?_ ?_
  · by_cases h8 : l ≥ 8
    · have h8' : (l : Int) ≥ 8 := by omega
      refine Rkf @h8' ?_
      refine Bt ?_
      have kb : PdAt (upd h b (swB 0 0)) id ver d T := k.upd hbi _
      have hsb : upd h b (swB 0 0) b = some (swB 0 0) := upd_same _ _ _
      by_cases h50 : l ≥ 50
      · have h50' : (l : Int) ≥ 50 := by omega
        have k1 := medianAdjacent_ok cm (b := b + 1) (cap := cap) kb i b 0 0 (by omega) (by omega) (by omega) hbi hsb (by omega)
        obtain ⟨a1, a2⟩ := medianAdj_lt (lt := ltZ z) (d := d) (a := i) (s := 0) (n := d.size) (by omega)
        obtain ⟨r1, hr1⟩ : ∃ r, Sort.medianAdjacent (ltZ z) d i 0 = r := ⟨_, rfl⟩
        rw [hr1] at k1 a1 a2
        have k2 := medianAdjacent_ok cm (b := b + 1) (cap := cap) (k.upd hbi (swB 0 r1.2)) j b 0 r1.2 (by omega) (by omega) (by omega) hbi (upd_same _ _ _) (by omega)
        obtain ⟨b1, b2⟩ := medianAdj_lt (lt := ltZ z) (d := d) (a := j) (s := r1.2) (n := d.size) (by omega)
        obtain ⟨r2, hr2⟩ : ∃ r, Sort.medianAdjacent (ltZ z) d j r1.2 = r := ⟨_, rfl⟩
        rw [hr2] at k2 b1 b2
        have k3 := medianAdjacent_ok cm (b := b + 1) (cap := cap) (k.upd hbi (swB 0 r2.2)) c b 0 r2.2 (by omega) (by omega) (by omega) hbi (upd_same _ _ _) (by omega)
        obtain ⟨c1, c2⟩ := medianAdj_lt (lt := ltZ z) (d := d) (a := c) (s := r2.2) (n := d.size) (by omega)
        obtain ⟨r3, hr3⟩ : ∃ r, Sort.medianAdjacent (ltZ z) d c r2.2 = r := ⟨_, rfl⟩
        rw [hr3] at k3 c1 c2
        have k4 := median_ok cm (b := b + 1) (cap := cap) (k.upd hbi (swB 0 r3.2)) r1.1 r2.1 r3.1 b 0 r3.2 a1 b1 c1 (by omega) hbi (upd_same _ _ _) (by omega)
        have hre : r = Sort.median (ltZ z) d r1.1 r2.1 r3.1 r3.2 := by
          rw [← hr]; unfold chR; rw [if_pos h8, if_pos h50]; simp only [hr1, hr2, hr3]
        rw [← hre] at k4
        clear hr1 hr2 hr3 hr hre
        refine AWP.seq ?_
        refine Rkf @h50' ?_
        refine Bt ?_
        refine Rg (fun E K hE hK => ?_)
        refine Us k1 body_200 ?_
        refine hK _ _ _ ?_; clear hE hK K E
        refine Rg (fun E K hE hK => ?_)
        refine Us k2 body_200 ?_
        refine hK _ _ _ ?_; clear hE hK K E
        refine Ra (fun E K hE hK => ?_)
        refine Us k3 body_200 ?_
        refine hK _ _ _ ?_; clear hE hK K E
        refine Ev ?_
        refine Ra (fun E K hE hK => ?_)
        refine Us k4 body_201 ?_
        refine hK _ _ _ ?_; clear hE hK K E
        exact ⟨r1.1, r3.1, rfl, by exact Er, fun x hx => by exact Ecf (show ¬ x = b by omega), by exact Er, by exact Er, by exact Er, by exact Er, by exact Er, by exact Er⟩
      · have h50' : ¬ (l : Int) ≥ 50 := by omega
        have k4 := median_ok cm (b := b + 1) (cap := cap) kb i j c b 0 0 (by omega) (by omega) (by omega) (by omega) hbi hsb (by omega)
        have hre : r = Sort.median (ltZ z) d i j c 0 := by
          rw [← hr]; unfold chR; rw [if_pos h8, if_neg h50]
        rw [← hre] at k4
        clear hr hre
        refine AWP.seq ?_
        refine Rkf @h50' ?_
        refine Bs ?_
        refine Ra (fun E K hE hK => ?_)
        refine Us k4 body_201 ?_
        refine hK _ _ _ ?_; clear hE hK K E
        exact ⟨i, c, rfl, by exact Er, fun x hx => by exact Ecf (show ¬ x = b by omega), by exact Er, by exact Er, by exact Er, by exact Er, by exact Er, by exact Er⟩
    · have h8' : ¬ (l : Int) ≥ 8 := by omega
      have hre : r = (j, 0) := by rw [← hr]; unfold chR; rw [if_neg h8]
      subst hre
      refine Rkf @h8' ?_
      refine Bs ?_
      exact ⟨i, c, rfl, by exact Er, fun x hx => by exact Ecf (show ¬ x = b by omega), by exact Er, by exact Er, by exact Er, by exact Er, by exact Er, by exact Er⟩
  · rintro ⟨t, hh, n⟩ ⟨i', k', rfl, e1, eo, e0, e3, e11, e12, e13, e14⟩
    simp only at e1 eo e0 e3 e11 e12 e13 e14
    have fin : ∀ (t : Nat → AV) (m : Nat) (x : Sort.Hint), t 8 = IntV r.1 → t 9 = IntV m → m = hintN x → (x = if r.2 = 0 then .increasing else if r.2 = 12 then .decreasing else .unknown) →
        Am.Ends Tryz.prog ⟨Tryz.f162.ntmps, b, ι, h, w, x0⟩ Tryz.f162 0 (fun r' h' => r' = .tup [IntV r.1, IntV (hintN (if r.2 = 0 then .increasing else if r.2 = 12 then .decreasing else .unknown))] ∧ h' = h) ⟨t, hh, 1⟩ := by
      intro t m x h1 h2 h3 h4
      exact Ends.pure hn H eo (r0 := .tup [IntV r.1, IntV m]) (by rw [show Tryz.f162.results.toList = [.tmp 8, .tmp 9] from rfl]; exact Ecf (jn2 @h1 @h2)) (frz_tup2 (.v _) (.v _)) ⟨by rw [h3, h4], rfl⟩
    refine Rkf (jn2 @e1 @e11) ?_
    refine AWP.block ?_
    refine Ev ?_
    by_cases r0 : r.2 = 0
    · have r0' : (r.2 : Int) = 0 := by omega
      refine Rkf @r0' ?_
      refine Bt ?_
      refine Rkf @e13 ?_
      refine AWP.ret ?_
      refine Ev ?_
      exact fin _ 1 .increasing (by exact Er) (by exact Er) rfl (by rw [if_pos r0])
    · have r0' : ¬ (r.2 : Int) = 0 := by omega
      refine Rkf @r0' ?_
      refine Bf ?_
      by_cases r12 : r.2 = 12
      · have r12' : (r.2 : Int) = 12 := by omega
        refine Rkf @r12' ?_
        refine Bt ?_
        refine Rkf @e13 ?_
        refine AWP.ret ?_
        refine Ev ?_
        exact fin _ 2 .decreasing (by exact Er) (by exact Er) rfl (by rw [if_neg r0, if_pos r12])
      · have r12' : ¬ (r.2 : Int) = 12 := by omega
        refine Rkf @r12' ?_
        refine Bf ?_
        refine Rkf @e13 ?_
        refine AWP.ret ?_
        refine Ev ?_
        exact fin _ 0 .unknown (by exact Er) (by exact Er) rfl (by rw [if_neg r0, if_neg r12])
end Go.Proofs.YtihgnpboabpchaaGreatDoor.PdSt
namespace Go.Proofs.YtihgnpboabpchaaGreatDoor.PdSt
set_option linter.unusedSimpArgs false
set_option linter.unusedVariables false
set_option linter.unnecessarySimpa false
open Go Am
set_option maxRecDepth 100000
structure RwAt (h : Heap) (b id ver cap n : Nat) (T : List Cell) (d : Array El) (st : St) : Prop where
  size : d.size = n
  row : st.h id = some (rowQ ver d T)
  out : ∀ x, x < b → x ≠ id → st.h x = h x
  win : st.t 0 = winQ id ver cap n
theorem RwAt.cut {h : Heap} {b id ver cap n : Nat} {T : List Cell} {d : Array El} {t : Nat → AV} {hh : Heap} {m : Nat} (hid : id < b) (hT : lowCs 0 T = true) (hlow : ∀ id blk, h id = some blk → ∀ c ∈ blk.cells, lowC b c = true) (C : Ctx) (hC : C.b = b)
    (h1 : d.size = n) (h2 : hh id = some (rowQ ver d T)) (h3 : ∀ x, x < b → x ≠ id → hh x = h x) (h4 : t 0 = winQ id ver cap n) : RwAt h b id ver cap n T d ((⟨t, hh, m⟩ : St).cut C 0) := by
  subst hC
  refine ⟨h1, cutH_same (by omega) h2 (lowCs_app (lowCs_p _ _) (lowCs_of fun c hc => lowC_mono (Nat.zero_le _) (lowCs_mem hT c hc))), fun x hx hne => cutH_outS hlow (h3 x hx hne) hx, ?_⟩
  show cutV _ (t 0) = _
  rw [h4]; exact cutV_win (by omega)
theorem RwAt.ends {C : Ctx} {fn : Func} {R : AV → Heap → Prop} {id ver : Nat} {T : List Cell} {d : Array El} {t : Nat → AV} {hh : Heap} {m : Nat} {r : AV} (hid : id < C.b) (hT : lowCs 0 T = true) (hn : ∀ id, C.b ≤ id → C.h id = none) (H : HeapOK C.ι C.h C.b C.w)
    (h2 : hh id = some (rowQ ver d T)) (h3 : ∀ x, x < C.b → x ≠ id → hh x = C.h x) (hr : resA Tryz.prog hh t fn.results.toList = some r) (hf : frzV hh C.b r r) (hR : R r (upd C.h id (rowQ ver d T))) : Am.Ends Tryz.prog C fn 0 R ⟨t, hh, m⟩ :=
  Ends.turn hn H hid (upd_all h2 h3) (lowCs_app (lowCs_p _ _) (lowCs_of fun c hc => lowC_mono (Nat.zero_le _) (lowCs_mem hT c hc))) hr hf hR
theorem reverseRange_ok (g : FuncId) {h : Heap} {b id ver cap : Nat} {d0 : Array El} {T : List Cell} (k : PdAt h id ver d0 T) (hid : id < b) (a e : Nat) (hae : a < e) (he : e ≤ d0.size) :
    ACalls Tryz.prog 163 [winQ id ver cap d0.size, IntV a, IntV e, cloV g] h b 0
      (fun r h' => r = .tup [] ∧ h' = upd h id (rowQ ver (Sort.reverseRange d0 a e) T)) := by
  refine ACalls.enter Tryz.func163 rfl (by simp [Tryz.ntmps163]) (fun ι w hn H => ?_)
  have hlow := H.lowCells
  have hz := k.size
  have w1 := w_sub1 (a := e) (by omega) (by omega)
  obtain ⟨N, hN⟩ : ∃ N, d0.size = N := ⟨_, rfl⟩
  have hrow := k.row
  have hT := k.low
  rw [hN] at hz he ⊢
  refine Rk ?_
  refine Rkf @w1 ?_
  refine AWP.block ?_
  refine AWP.loopM 0 (fun m st => ∃ i j d, m = j - i ∧ j < e ∧ i < e ∧ Sort.reverseLoop i j d = Sort.reverseRange d0 a e ∧ RwAt h b id ver cap N T d st ∧ st.t 8 = IntV i ∧ st.t 9 = IntV j) (e - 1 - a) rfl ⟨a, e - 1, d0, rfl, by omega, hae, rfl, ⟨hN, hrow, fun _ _ _ => rfl, by exact Er⟩, by exact Er, by exact Er⟩ ?_
  rintro m ⟨t, hh, n⟩ ⟨i, j, d, rfl, hj, hi, hd, ⟨hs, hb, ho, e0⟩, e8, e9⟩ hn1
  simp only at hb ho e0 e8 e9 hn1
  subst hn1
  rw [Sort.reverseLoop] at hd
  refine AWP.seq ?_
  refine Rkf (jn2 @e8 @e9) ?_
  by_cases hlt : i < j
  · have hlt' : (i : Int) < j := by omega
    rw [if_pos hlt] at hd
    refine Btf @hlt' ?_
    refine AWP.skip ?_
    refine Ev ?_
    refine AWP.block ?_
    have w2 := w_add1 (a := i) (by omega)
    have w3 := w_sub1 (a := j) (by omega) (by omega)
    rw [← hs] at e0 he
    have la : i < d.size := by omega
    have lb : j < d.size := by omega
    have la' : ((i : Nat) : Int) < d.size := by omega
    have lb' : ((j : Nat) : Int) < d.size := by omega
    have hpa := celQ_get d T i la
    have hpb := celQ_get d T j lb
    have hs1 := celQ_set d T i la d[j]!
    have hs2 := celQ_set (d.setIfInBounds i d[j]!) T j (by rw [Array.size_setIfInBounds]; exact lb) d[i]!
    rw [show (d.setIfInBounds i d[j]!).setIfInBounds j d[i]! = Sort.swp d i j from rfl] at hs2
    have hb' : hh id = some ⟨ver, celQ d T⟩ := hb
    have hlL := celQ_len d T
    have hlL2 := celQ_len (d.setIfInBounds i d[j]!) T
    rw [Array.size_setIfInBounds] at hlL2
    obtain ⟨vx, hvx⟩ : ∃ v, d[i]! = v := ⟨_, rfl⟩
    obtain ⟨vy, hvy⟩ : ∃ v, d[j]! = v := ⟨_, rfl⟩
    rw [hvx] at hpa hs2
    rw [hvy] at hpb hs1 hs2 hlL2
    generalize celQ (d.setIfInBounds i vy) T = L2 at hs1 hs2 hlL2
    generalize celQ d T = L1 at hpa hpb hs1 hb' hlL
    refine AWP.seq ?_
    refine AWP.rgD [23, 27] [] [id] mixed (by kernel_rfl) (by kernel_rfl) (fun K hK => ?_) (by kernel_rfl); simp -implicitDefEqProofs only [go_sem, ↓reduceIte, Nat.reduceEqDiff, Nat.reduceAdd, Nat.reduceLT, Nat.reduceLeDiff, reduceCtorEq, Int.toNat_natCast, e0, e8, e9, hb', hpa, hpb, la', lb', hs1, hs2]
    repeat (first | (refine ⟨⟨by omega, by omega⟩, ?_⟩) | (refine ⟨by omega, ?_⟩) | (refine ⟨sub_ers _ _, ?_⟩) | (refine ⟨sub_at _ hb', ?_⟩))
    refine hK _ _ _ ?_; clear hK K
    refine Ev ?_
    refine Rkf (jn2 @e8 @w2) ?_
    refine Raf (jn2 @e9 @w3) (fun E K hE hK => ?_); refine hK _ _ _ ?_; clear hE hK K E
    refine ⟨(j - 1) - (i + 1), by omega, i + 1, j - 1, _, rfl, by omega, by omega, hd, ?_, by exact Er, by exact Er⟩
    exact RwAt.cut hid hT hlow ⟨_, b, ι, h, w, x0⟩ rfl (by rw [swp_size, hs]) (by exact Er) (fun x hx hne => by refine Evf @hne ?_; exact ho x hx hne) (by exact Ecf (jn2 @e0 @hs))
  · have hlt' : ¬ (i : Int) < j := by omega
    rw [if_neg hlt] at hd
    refine Bff @hlt' ?_
    refine AWP.exit ?_
    refine Ev ?_
    subst hd
    exact RwAt.ends (C := ⟨_, b, ι, h, w, x0⟩) hid hT hn H hb ho rfl (frz_tup0 _ _) ⟨rfl, rfl⟩
end Go.Proofs.YtihgnpboabpchaaGreatDoor.PdSt
namespace Go.Proofs.YtihgnpboabpchaaGreatDoor.PdSt
set_option linter.unusedSimpArgs false
set_option linter.unusedVariables false
set_option linter.unnecessarySimpa false
open Go Am
set_option maxRecDepth 100000
def FnAt (g : FuncId) (cs : List Cell) (f : El → Bool) (l : List El) (h : Heap) (b id : Nat) : Prop :=
  ∀ (h' : Heap) (b' : Nat), b ≤ b' → (∀ x, x < b → x ≠ id → h' x = h x) → ∀ d ∈ l, ACalls Tryz.prog g (elQ d :: cs.map .one) h' b' 0 (fun r h'' => r = BoolV (f d) ∧ h'' = h')
theorem indexO_ok (g : FuncId) (cs : List Cell) (f : El → Bool) {h : Heap} {b id ver cap : Nat} {d : Array El} {T : List Cell} (k : PdAt h id ver d T) (hid : id < b) (hg : bodyB Tryz.prog g = true) (hcs : lowCs b cs = true) (hc : FnAt g cs f d.toList h b id) :
    ACalls Tryz.prog 120 [winQ id ver cap d.size, .one (.clo (.func g) [] cs)] h b 0 (fun r h' => r = IntV (idxFrom f 0 d.toList) ∧ h' = h) := by
  refine ACalls.enter Tryz.func120 rfl (by simp [Tryz.ntmps120]) (fun ι w hn H => ?_)
  have hlow := H.lowCells
  have hrow := k.row
  have hz := k.size
  have fin : ∀ (t : Nat → AV) (v : Int), t 4 = IntV v → v = idxFrom f 0 d.toList → Am.Ends Tryz.prog ⟨Tryz.f120.ntmps, b, ι, h, w, x0⟩ Tryz.f120 0 (fun r h' => r = IntV (idxFrom f 0 d.toList) ∧ h' = h) ⟨t, h, 0⟩ := by
    intro t v ht hv
    exact Ends.pure hn H (fun _ _ => rfl) (r0 := IntV v) (by rw [show Tryz.f120.results.toList = [.tmp 4] from rfl]; exact Ecf @ht) (.v _) ⟨by rw [hv], rfl⟩
  refine Rk ?_
  refine AWP.seq ?_
  refine Rkf @hrow ?_
  refine AWP.block ?_
  refine AWP.loopUp 0 d.size (fun i st => st.h = h ∧ st.t 0 = winQ id ver cap d.size ∧ st.t 1 = .one (.clo (.func g) [] cs) ∧ st.t 7 = IntV d.size ∧ st.t 8 = IntV i ∧ idxFrom f 0 d.toList = idxFrom f i (d.toList.drop i)) 0 (Nat.zero_le _) rfl ⟨rfl, by exact Er, by exact Er, by exact Er, by exact Er, rfl⟩ ?_
  rintro i ⟨t, hh, n⟩ hi ⟨eh, e0, e1, e7, e8, hx⟩ hn1
  simp only at eh e0 e1 e7 e8 hn1
  subst hn1
  subst eh
  refine Rkf (jn2 @e7 @e8) ?_
  by_cases hlt : (i : Int) < d.size
  · have hi2 : i < d.size := by omega
    have hi3 : i < d.toList.length := by simpa using hi2
    have hstep : idxFrom f i (d.toList.drop i) = if f d[i]! = true then (i : Int) else idxFrom f (i + 1) (d.toList.drop (i + 1)) := by
      rw [List.drop_eq_getElem_cons hi3, Array.getElem_toList, getElem!_pos d i hi2]; rfl
    have hpa := celQ_get d T i hi2
    have hm : d[i]! ∈ d.toList := by rw [getElem!_pos d i hi2]; exact Array.getElem_mem_toList hi2
    have hb' : hh id = some ⟨ver, celQ d T⟩ := hrow
    have hlL := celQ_len d T
    obtain ⟨v, hv⟩ : ∃ v, d[i]! = v := ⟨_, rfl⟩
    rw [hv] at hpa hm hstep
    generalize celQ d T = L at hpa hb' hlL
    have w1 := w_add1 (a := i) (by omega)
    refine AWP.seq ?_
    refine Btf @hlt ?_
    refine AWP.skip ?_
    refine Ev ?_
    refine AWP.seq ?_
    refine AWP.block ?_
    refine Rkf @e8 ?_
    refine Rgf (jn5 @e0 @e1 @hb' @hpa @hlt) (fun E K hE hK => ?_)
    repeat (refine ⟨by omega, ?_⟩)
    refine Us (hc _ _ (Nat.le_refl _) (fun _ _ _ => rfl) v hm) hg ?_
    refine hK _ _ _ ?_; clear hE hK K E
    cases hf : f v with
    | true =>
      refine Btf @hf ?_
      refine Rk ?_
      refine AWP.ret ?_
      refine Ev ?_
      refine fin _ i (by exact Er) ?_
      rw [hx, hstep, if_pos hf]
    | false =>
      refine Bff @hf ?_
      refine AWP.skip ?_
      refine Ev ?_
      refine Raf (jn2 @e8 @w1) (fun E K hE hK => ?_); refine hK _ _ _ ?_; clear hE hK K E
      refine ⟨hi2, cutH_id rfl (fun _ _ => rfl) hn hlow, by refine Evf @e0 ?_; exact cutV_win hid, by refine Evf @e1 ?_; exact cutV_clo hcs, by exact Ecf @e7, by exact Er, ?_⟩
      rw [hx, hstep, if_neg (by rw [hf]; simp)]
  · refine AWP.seq ?_
    refine Bff @hlt ?_
    refine AWP.exit ?_
    refine Ev ?_
    refine Rk ?_
    refine AWP.ret ?_
    refine Ev ?_
    refine fin _ (-1) (by exact Er) ?_
    rw [hx, List.drop_of_length_le (by rw [Array.length_toList]; omega)]; rfl
theorem idxFrom_first' {α : Type} (f : α → Bool) : ∀ (l : List α) (i : Nat), (idxFrom f i l = -1 ∧ ∀ x ∈ l, f x = false) ∨ ∃ j, ∃ hj : j < l.length, idxFrom f i l = ((i + j : Nat) : Int) ∧ f l[j] = true ∧ ∀ x ∈ l.take j, f x = false
  | [], i => .inl ⟨by simp [idxFrom], by simp⟩
  | x :: l, i => by
    unfold idxFrom
    by_cases h : f x = true
    · exact .inr ⟨0, by simp, by rw [if_pos h]; simp, by simpa using h, by simp⟩
    · rw [if_neg h]
      have h' : f x = false := by simpa using h
      rcases idxFrom_first' f l (i + 1) with ⟨h1, h2⟩ | ⟨j, hj, h1, h2, h3⟩
      · exact .inl ⟨h1, by simp only [List.mem_cons, forall_eq_or_imp]; exact ⟨h', h2⟩⟩
      · refine .inr ⟨j + 1, by simp; omega, by rw [h1]; congr 1; omega, by simpa using h2, ?_⟩
        simp only [List.take_succ_cons, List.mem_cons, forall_eq_or_imp]; exact ⟨h', h3⟩
theorem take_set1' {α : Type} (l : List α) (k : Nat) (hk : k < l.length) (v : α) : List.take (k + 1) (l.set k v) = List.take k l ++ [v] := by
  simp [List.take_add_one, hk]
  rw [List.take_set]
  exact List.set_eq_of_length_le (by rw [List.length_take]; omega)
theorem cellsplit (cur : Array El) (T : List Cell) (k : Nat) : celQ cur T = ((cur.toList.take k).map encQ).flatten.map .p ++ (((cur.toList.drop k).map encQ).flatten.map .p ++ T) := by
  unfold celQ
  rw [← List.append_assoc, ← List.map_append, ← List.flatten_append, ← List.map_append, List.take_append_drop]
structure LeftAt (h : Heap) (id ver n cap : Nat) (T : List Cell) (l : List El) (r : AV) (h' : Heap) : Prop where
  ret : r = winQ id ver cap l.length
  mem : ∃ T', lowCs 0 T' = true ∧ T'.length + l.length * 1 = n * 1 + T.length ∧ h' = upd h id (rowB ver (l.map encQ) T')
theorem LeftAt.same {h : Heap} {id ver cap : Nat} {d : Array El} {T : List Cell} (k : PdAt h id ver d T) {r : AV} {h' : Heap} (hr : r = winQ id ver cap d.size) (hh : h' = upd h id (rowQ ver d T)) : LeftAt h id ver d.size cap T d.toList r h' := ⟨by rw [hr, Array.length_toList], T, k.low, by rw [show d.toList.length = d.size from Array.length_toList, Nat.add_comm], hh⟩
theorem deleteO_ok (g : FuncId) (cs : List Cell) (f : El → Bool) {h : Heap} {b id ver cap : Nat} {d : Array El} {T : List Cell} (k : PdAt h id ver d T) (hid : id < b) (hg : bodyB Tryz.prog g = true) (hcs : lowCs b cs = true) (hcap : d.size ≤ cap) (hc : FnAt g cs f d.toList h b id) :
    ACalls Tryz.prog 66 [winQ id ver cap d.size, .one (.clo (.func g) [] cs)] h b 0 (LeftAt h id ver d.size cap T (d.toList.filter fun x => !f x)) := by
  refine ACalls.enter Tryz.func66 rfl (by simp [Tryz.ntmps66]) (fun ι w hn H => ?_)
  have hlow := H.lowCells
  have hT := k.low
  have hz := k.size
  have hrow := k.row
  have k1 := indexO_ok g cs f (b := b + 0) (cap := cap) k hid hg hcs (fun h' b' hb hh x hx => hc h' b' (by omega) (fun y hy hne => hh y (by omega) hne) x hx)
  refine Rk ?_
  refine Rg (fun E K hE hK => ?_)
  refine Us k1 body_120 ?_
  refine hK _ _ _ ?_; clear hE hK K E
  refine AWP.seq ?_
  refine Rk ?_
  rcases idxFrom_first' f d.toList 0 with ⟨h1, h2⟩ | ⟨j, hj, h1, h2, h3⟩
  · have he : d.toList.filter (fun d => !f d) = d.toList := List.filter_eq_self.2 (fun a ha => by rw [h2 a ha]; rfl)
    refine Btf @h1 ?_
    refine Rk ?_
    refine AWP.ret ?_
    refine Ev ?_
    rw [he]
    exact RwAt.ends (C := ⟨_, b, ι, h, w, x0⟩) (d := d) hid hT hn H hrow (fun _ _ _ => rfl) (r := winQ id ver cap d.size) (by rw [show Tryz.f66.results.toList = [.tmp 4] from rfl]; exact Er) (.one (.inl ⟨rfl, by simp [lowC, hid]⟩)) (LeftAt.same k rfl rfl)
  rw [Nat.zero_add] at h1
  rw [Array.length_toList] at hj
  have hw0 := w_add1 (a := j) (by omega)
  refine Bsf (jn2 @h1 (show ¬ (j : Int) = -1 by omega)) ?_
  refine AWP.seq ?_
  refine Rkf (jn2 @h1 @hw0) ?_
  refine AWP.block ?_
  obtain ⟨l, hl⟩ : ∃ l, d.toList = l := ⟨_, rfl⟩
  have hll : l.length = d.size := by rw [← hl, Array.length_toList]
  obtain ⟨N, hN⟩ : ∃ N, d.size = N := ⟨_, rfl⟩
  rw [hl] at hc
  simp only [hl] at h2 h3
  rw [hN] at hll hz hcap hj ⊢
  rw [hl]
  have hpre : (l.take (j + 1)).filter (fun d => !f d) = l.take j := by
    rw [List.take_add_one, List.filter_append, List.getElem?_eq_getElem (by omega)]
    have : (l.take j).filter (fun d => !f d) = l.take j := List.filter_eq_self.2 (fun a ha => by rw [h3 a ha]; rfl)
    rw [this]; simp [h2]
  refine AWP.loopM 0 (fun m st => ∃ i k cur, i ≤ N ∧ m = N - i ∧ k < i ∧ RwAt h b id ver cap N T cur st ∧ st.t 1 = .one (.clo (.func g) [] cs) ∧ st.t 5 = IntV k ∧ st.t 6 = IntV i ∧ cur.toList.take k = (l.take i).filter (fun d => !f d) ∧ cur.toList.drop i = l.drop i) (N - (j + 1)) rfl
    ⟨j + 1, j, d, by omega, rfl, Nat.lt_succ_self _, ⟨hN, hrow, fun _ _ _ => rfl, by exact Er⟩, by exact Er, by exact Erf @h1, by exact Er, by rw [hpre, hl], by rw [hl]⟩ ?_
  clear hpre h1 h2 h3 hl hN k1 hrow k hw0 hj
  rintro m ⟨t, hh, n⟩ ⟨i, k, cur, hi, rfl, hki, ⟨hs, hb, ho, e0⟩, e1, e5, e6, htk, hdr⟩ hn1
  simp only at hb ho e0 e1 e5 e6 hn1
  subst hn1
  refine AWP.seq ?_
  refine Rkf (jn3 @e0 @e6 @hb) ?_
  by_cases hlt : (i : Int) < (N : Nat)
  · have hw1 := w_add1 (a := i) (by omega)
    have hw2 := w_add1 (a := k) (by omega)
    have hi2 : i < l.length := by omega
    have hci : cur.toList[i]? = some l[i] := by
      have := congrArg (fun x => x[0]?) hdr
      simp only [List.getElem?_drop, Nat.add_zero] at this
      rw [this, List.getElem?_eq_getElem hi2]
    have hcv : cur[i]! = l[i] := by
      rw [Array.getElem?_toList] at hci
      rw [getElem!_pos cur i (by omega)]
      rw [Array.getElem?_eq_getElem (by omega)] at hci
      exact Option.some.inj hci
    have hfi : (l.take (i + 1)).filter (fun d => !f d) = (l.take i).filter (fun d => !f d) ++ (if f l[i] = true then [] else [l[i]]) := by
      rw [List.take_add_one, List.filter_append, List.getElem?_eq_getElem hi2]
      cases hfd : f l[i] <;> simp [hfd]
    have hdr2 : cur.toList.drop (i + 1) = l.drop (i + 1) := by
      have := congrArg (List.drop 1) hdr
      rwa [List.drop_drop, List.drop_drop] at this
    have hpa := celQ_get cur T i (by omega)
    rw [hcv] at hpa
    obtain ⟨x, hx⟩ : ∃ x, l[i] = x := ⟨_, rfl⟩
    have hdm : x ∈ l := by rw [← hx]; exact List.getElem_mem hi2
    rw [hx] at hpa hfi
    have hset := celQ_set cur T k (by omega) x
    have hb' : hh id = some ⟨ver, celQ cur T⟩ := hb
    have hlL := celQ_len cur T
    have hcl := hc hh (b + 0) (by omega) ho x hdm
    generalize celQ cur T = L at hpa hb' hlL hset
    have hlk : (k : Int) < (cur.size : Nat) := by omega
    have hlt' : (i : Int) < (cur.size : Nat) := by omega
    rw [← hs] at e0
    refine Btf @hlt ?_
    refine AWP.skip ?_
    refine Ev ?_
    refine AWP.seq ?_
    refine AWP.block ?_
    refine Rgf (jn5 @e0 @e6 @hb' @hlt' @hpa) (fun E K hE hK => ?_)
    repeat (refine ⟨by omega, ?_⟩)
    refine hK _ _ _ ?_; clear hE hK K E
    refine Rgf @e1 (fun E K hE hK => ?_)
    refine Us hcl hg ?_
    cases hfd : f x
    · rw [hfd, if_neg (by simp)] at hfi
      refine Evf @hfd ?_
      refine hK _ _ _ ?_; clear hE hK K E
      refine Bt ?_
      refine Rgf (jn5 @e0 @e5 @hb' @hlk @hset) (fun E K hE hK => ?_)
      repeat (first | (refine ⟨⟨by omega, by omega⟩, ?_⟩) | (refine ⟨by omega, ?_⟩))
      refine hK _ _ _ ?_; clear hE hK K E
      refine Raf (jn2 @e5 @hw2) (fun E K hE hK => ?_); refine hK _ _ _ ?_; clear hE hK K E
      refine Ev ?_
      refine Raf (jn2 @e6 @hw1) (fun E K hE hK => ?_); refine hK _ _ _ ?_; clear hE hK K E
      refine ⟨N - (i + 1), by omega, i + 1, k + 1, cur.setIfInBounds k x, by omega, rfl, by omega, RwAt.cut hid hT hlow ⟨_, b, ι, h, w, x0⟩ rfl (by rw [Array.size_setIfInBounds, hs]) (by exact Er) (fun y hy hne => by refine Evf @hne ?_; exact ho y hy hne) (by exact Ecf (jn2 @e0 @hs)), by refine Evf @e1 ?_; exact cutV_clo hcs, by exact Er, by exact Er, ?_, ?_⟩
      · rw [hfi, ← htk, Array.toList_setIfInBounds, take_set1' _ _ (by rw [Array.length_toList]; omega)]
      · rw [Array.toList_setIfInBounds, List.drop_set_of_lt (by omega), hdr2]
    · rw [hfd, if_pos rfl, List.append_nil] at hfi
      refine Evf @hfd ?_
      refine hK _ _ _ ?_; clear hE hK K E
      refine Bs ?_
      refine Raf (jn2 @e6 @hw1) (fun E K hE hK => ?_); refine hK _ _ _ ?_; clear hE hK K E
      refine ⟨N - (i + 1), by omega, i + 1, k, cur, by omega, rfl, by omega, RwAt.cut hid hT hlow ⟨_, b, ι, h, w, x0⟩ rfl hs (by exact Erf @hb) ho (by exact Ecf (jn2 @e0 @hs)), by refine Evf @e1 ?_; exact cutV_clo hcs, by exact Ecf @e5, by exact Er, by rw [hfi, htk], hdr2⟩
  · have hil : i = l.length := by omega
    subst hil
    rw [List.take_length] at htk
    have hsp := cellsplit cur T k
    have hkl : (cur.toList.take k).length = k := by rw [List.length_take, Array.length_toList]; omega
    have hb2 : hh id = some ⟨ver, celQ cur T⟩ := hb
    rw [hsp, htk] at hb2
    rw [htk] at hkl
    obtain ⟨l2, hl2⟩ : ∃ l2, l.filter (fun d => !f d) = l2 := ⟨_, rfl⟩
    rw [hl2] at hb2 hkl ⊢
    have hlen2 : ((l2.map encQ).flatten.map Cell.p).length = k * 1 := by rw [List.length_map, okEs_len (okEs_q _), List.length_map, hkl]
    generalize hT1 : ((cur.toList.drop k).map encQ).flatten.map Cell.p ++ T = T1 at hb2
    have hT1l : T1.length = (N - k) * 1 + T.length := by
      rw [← hT1, List.length_append, List.length_map, okEs_len (okEs_q _), List.length_map, List.length_drop, Array.length_toList, hs]
    have hT1low : lowCs 0 T1 = true := by rw [← hT1]; exact lowCs_app (lowCs_p _ _) hT
    generalize hA : (l2.map encQ).flatten.map Cell.p = A at hb2 hlen2
    clear hsp hb
    refine Bff @hlt ?_
    refine AWP.exit ?_
    refine Ev ?_
    refine Rgf (jn3 @e0 @e5 @hb2) (fun E K hE hK => ?_)
    refine ⟨⟨by omega, by omega⟩, ?_⟩
    have hne : ¬ cap = k := by omega
    rw [if_neg hne]
    refine BiR.of ?_
    refine BiK.clear (e := 9) (sz := 1) ty_slE_42 ty_tzero_9 rfl (by decide) hb2 rfl (by simp only [List.length_append, hlen2, hT1l]; omega) ?_
    rw [spl_tail hlen2.symm]
    refine Ev ?_
    refine hK _ _ _ ?_; clear hE hK K E
    have hrl : ((repl [Cell.p (PD.v (.string ByteArray.empty))] (N - k)).length : Nat) = N - k := by rw [repl_length]; simp
    refine Rgf (jn2 @e0 @e5) (fun E K hE hK => ?_)
    refine ⟨⟨by omega, by omega⟩, ?_⟩
    refine hK _ _ _ ?_; clear hE hK K E
    refine AWP.ret ?_
    refine Ev ?_
    rw [← hA]
    refine Ends.turn hn H hid (fun x hx => ?_) (lowCs_app (lowCs_p _ _) (lowCs_app (lowCs_repl rfl _) (lowCs_mono (Nat.zero_le _) (lowCs_drop hT1low _)))) (r0 := winQ id ver cap l2.length)
      (by rw [show Tryz.f66.results.toList = [.tmp 4] from rfl, hkl]; exact Er) (.one (.inl ⟨rfl, by simp [lowC, hid]⟩)) ⟨rfl, repl [Cell.p (PD.v (.string ByteArray.empty))] (N - k) ++ List.drop (repl [Cell.p (PD.v (.string ByteArray.empty))] (N - k)).length T1, lowCs_app (lowCs_repl rfl _) (lowCs_drop hT1low _), ?_, rfl⟩
    · by_cases hx2 : x = id
      · subst hx2; exact (upd_same _ _ _).trans (upd_same _ _ _).symm
      · exact (upd_ne _ _ _ _ hx2).trans ((ho x hx hx2).trans (upd_ne _ _ _ _ hx2).symm)
    · simp only [List.length_append, List.length_drop, hT1l, hkl, repl_length, List.length_cons, List.length_nil]
      omega
end Go.Proofs.YtihgnpboabpchaaGreatDoor.PdSt
namespace Go.Proofs.YtihgnpboabpchaaGreatDoor.PdSt
set_option linter.unusedSimpArgs false
set_option linter.unusedVariables false
set_option linter.unnecessarySimpa false
open Go Am
set_option maxRecDepth 100000
def cpt (d : Array El) : Nat → List El
  | 0 => []
  | m + 1 => if m > 0 ∧ d[m]! = d[m - 1]! then cpt d m else cpt d m ++ [d[m]!]
theorem cpt_len (d : Array El) : ∀ m, (cpt d m).length ≤ m ∧ (0 < m → 0 < (cpt d m).length)
  | 0 => ⟨Nat.le_refl _, fun h => absurd h (by decide)⟩
  | m + 1 => by
    obtain ⟨h1, h2⟩ := cpt_len d m
    unfold cpt
    split
    · rename_i h; exact ⟨by omega, fun _ => h2 h.1⟩
    · rw [List.length_append, List.length_singleton]; exact ⟨by omega, fun _ => by omega⟩
theorem toList_get (d : Array El) {i : Nat} (hi : i < d.size) : d.toList[i]? = some d[i]! := by
  rw [Array.getElem?_toList, getElem!_pos d i hi, Array.getElem?_eq_getElem hi]
theorem take_snoc (d : Array El) {m : Nat} (hm : m < d.size) : d.toList.take (m + 1) = d.toList.take m ++ [d[m]!] := by
  rw [List.take_add_one, toList_get d hm]; rfl
theorem cpt_all (d : Array El) : ∀ m, m ≤ d.size → (∀ i, 0 < i → i < m → d[i]! ≠ d[i - 1]!) → cpt d m = d.toList.take m
  | 0, _, _ => by simp [cpt]
  | m + 1, hm, h => by
    unfold cpt
    rw [if_neg (fun q => h m q.1 (Nat.lt_succ_self _) q.2), cpt_all d m (by omega) (fun i h0 h1 => h i h0 (by omega)), take_snoc d (by omega)]
theorem drop_get (d d0 : Array El) {j i : Nat} (h : d.toList.drop j = d0.toList.drop j) (hs : d.size = d0.size) (hj : j ≤ i) (hi : i < d.size) : d[i]! = d0[i]! := by
  have := congrArg (fun l => l[i - j]?) h
  simp only [List.getElem?_drop] at this
  rw [show j + (i - j) = i by omega, toList_get d hi, toList_get d0 (by omega)] at this
  exact Option.some.inj this
theorem compact_ok {h : Heap} {b id ver cap : Nat} {d : Array El} {T : List Cell} (k : PdAt h id ver d T) (hid : id < b) (hcap : d.size ≤ cap) :
    ACalls Tryz.prog 67 [winQ id ver cap d.size] h b 0 (LeftAt h id ver d.size cap T (cpt d d.size)) := by
  refine ACalls.enter Tryz.func67 rfl (by simp [Tryz.ntmps67]) (fun ι w hn H => ?_)
  have hlow := H.lowCells
  have hT := k.low
  have hz := k.size
  have hrow := k.row
  have same : ∀ (t : Nat → AV) (hh : Heap), cpt d d.size = d.toList → t 2 = winQ id ver cap d.size → hh id = some (rowQ ver d T) → (∀ x, x < b → x ≠ id → hh x = h x) → Am.Ends Tryz.prog ⟨Tryz.f67.ntmps, b, ι, h, w, x0⟩ Tryz.f67 0 (LeftAt h id ver d.size cap T (cpt d d.size)) ⟨t, hh, 0⟩ := by
    intro t hh h1 h2 h3 h4
    rw [h1]
    exact RwAt.ends (C := ⟨_, b, ι, h, w, x0⟩) (d := d) hid hT hn H h3 h4 (r := winQ id ver cap d.size) (by rw [show Tryz.f67.results.toList = [.tmp 2] from rfl]; exact Ecf @h2) (.one (.inl ⟨rfl, by simp [lowC, hid]⟩)) (LeftAt.same k rfl rfl)
  refine Rk ?_
  refine AWP.seq ?_
  by_cases hs2 : (d.size : Int) < 2
  · refine Rkf (jn2 @hrow @hs2) ?_
    refine Bt ?_
    refine Rk ?_
    refine AWP.ret ?_
    refine Ev ?_
    exact same _ _ (by rw [cpt_all d d.size (Nat.le_refl _) (fun i h0 h1 => by omega), List.take_of_length_le (by rw [Array.length_toList]; exact Nat.le_refl _)]) (by exact Er) hrow (fun _ _ _ => rfl)
  refine Rkf (jn2 @hrow @hs2) ?_
  refine Bs ?_
  refine AWP.seq ?_
  refine Rk ?_
  refine AWP.block ?_
  refine AWP.loopM 0 (fun m st => ∃ i, m = d.size - i ∧ 0 < i ∧ i ≤ d.size ∧ (∀ j, 0 < j → j < i → d[j]! ≠ d[j - 1]!) ∧ RwAt h b id ver cap d.size T d st ∧ st.t 3 = IntV i) (d.size - 1) rfl ⟨1, rfl, Nat.one_pos, by omega, fun j h0 h1 => by omega, ⟨rfl, hrow, fun _ _ _ => rfl, by exact Er⟩, by exact Er⟩ ?_
  rintro m ⟨t, hh, n⟩ ⟨i, rfl, hi0, hid2, hd, ⟨_, hb, ho, e0⟩, e3⟩ hn1
  simp only at hb ho e0 e3 hn1
  subst hn1
  refine AWP.seq ?_
  refine Rkf (jn3 @e0 @e3 @hb) ?_
  by_cases hlt : (i : Int) < d.size
  · have w1 := w_sub1 (a := i) (by omega) (by omega)
    have w2 := w_add1 (a := i) (by omega)
    refine Btf @hlt ?_
    refine AWP.skip ?_
    refine Ev ?_
    refine AWP.seq ?_
    refine AWP.block ?_
    have hpa := celQ_get d T i (by omega)
    have hpb := celQ_get d T (i - 1) (by omega)
    have hlt2 : ((i - 1 : Nat) : Int) < d.size := by omega
    have hb' : hh id = some ⟨ver, celQ d T⟩ := hb
    have hlL := celQ_len d T
    obtain ⟨vx, hvx⟩ : ∃ v, d[i]! = v := ⟨_, rfl⟩
    obtain ⟨vy, hvy⟩ : ∃ v, d[i - 1]! = v := ⟨_, rfl⟩
    rw [hvx] at hpa
    rw [hvy] at hpb
    generalize celQ d T = L1 at hpa hpb hb' hlL
    refine AWP.seqRegD [] [] [] mixed (by kernel_rfl) (by kernel_rfl) (fun K hK => .inl ?_) (by kernel_rfl); simp -implicitDefEqProofs only [go_sem, ↓reduceIte, Nat.reduceEqDiff, Nat.reduceAdd, Nat.reduceLT, Nat.reduceLeDiff, reduceCtorEq, Int.toNat_natCast, e0, e3, w1, hb', hpa, hpb, hlt, hlt2]
    repeat (refine ⟨by omega, ?_⟩)
    by_cases hq : EqC vx vy
    · refine hK _ _ _ ?_; clear hK K
      refine Btf @hq ?_
      have heq : d[i]! = d[i - 1]! := by rw [hvx, hvy]; exact eqC_iff.1 hq
      clear hpa hpb hb' hlL hvx hvy hq
      refine Rgf (jn3 @e0 @e3 @hb) (fun E K hE hK => ?_)
      repeat (first | (refine ⟨⟨by omega, by omega⟩, ?_⟩) | (refine ⟨by omega, ?_⟩))
      rw [if_neg (show ¬ cap = i by omega)]
      refine hK _ _ _ ?_; clear hE hK K E
      refine AWP.seq ?_
      refine Rk ?_
      refine AWP.block ?_
      obtain ⟨N, hN⟩ : ∃ N, d.size = N := ⟨_, rfl⟩
      have hc1 : cpt d (i + 1) = d.toList.take i := by
        show (if i > 0 ∧ d[i]! = d[i - 1]! then cpt d i else cpt d i ++ [d[i]!]) = _
        rw [if_pos ⟨hi0, heq⟩, cpt_all d i (by omega) hd]
      rw [hN] at hcap hz hlt e0 same ⊢
      refine AWP.loopM 0 (fun m st => ∃ x kk cur, m = N - i - x ∧ 1 ≤ x ∧ x ≤ N - i ∧ 1 ≤ kk ∧ kk ≤ i + x - 1 ∧ cur.toList.take kk = cpt d (i + x) ∧ cur.toList.drop (i + x - 1) = d.toList.drop (i + x - 1) ∧ RwAt h b id ver cap N T cur st ∧ st.t 3 = IntV kk ∧ st.t 4 = .one (.win id ver (i * 1) (N - i) (cap - i)) ∧ st.t 5 = IntV x) (N - i - 1) rfl
        ⟨1, i, d, rfl, Nat.le_refl _, by omega, hi0, by omega, hc1.symm, rfl, ⟨hN, hb, ho, by exact Ecf @e0⟩, by exact Ecf @e3, by exact Er, by exact Er⟩ ?_
      clear hc1 hb ho e0 e3
      rintro m ⟨t, hh, n⟩ ⟨x, kk, cur, rfl, hx1, hxN, hk1, hkk, htk, hdr, ⟨hs, hb, ho, e0⟩, e3, e4, e5⟩ hn1
      simp only at hb ho e0 e3 e4 e5 hn1
      subst hn1
      refine AWP.seq ?_
      have hlen := celQ_len cur T
      refine Rgf (jn3 @e4 @e5 @hb) (fun E K hE hK => ?_)
      repeat (first | (refine ⟨⟨by omega, by omega⟩, ?_⟩) | (refine ⟨by omega, ?_⟩))
      refine hK _ _ _ ?_; clear hE hK K E
      by_cases hlx : (x : Int) < ((N - i : Nat) : Int)
      · have w3 := w_sub1 (a := x) (by omega) (by omega)
        have w4 := w_add1 (a := x) (by omega)
        have w5 := w_add1 (a := kk) (by omega)
        have hgx : cur[i + x]! = d[i + x]! := drop_get cur d hdr (by rw [hs, hN]) (by omega) (by omega)
        have hgy : cur[i + (x - 1)]! = d[i + x - 1]! := by rw [show i + (x - 1) = i + x - 1 by omega]; exact drop_get cur d hdr (by rw [hs, hN]) (Nat.le_refl _) (by omega)
        have hpa := celQ_get cur T (i + x) (by omega)
        have hpb := celQ_get cur T (i + (x - 1)) (by omega)
        rw [hgx] at hpa
        rw [hgy] at hpb
        obtain ⟨vx, hvx⟩ : ∃ v, d[i + x]! = v := ⟨_, rfl⟩
        obtain ⟨vy, hvy⟩ : ∃ v, d[i + x - 1]! = v := ⟨_, rfl⟩
        rw [hvx] at hpa
        rw [hvy] at hpb
        rw [Nat.add_mul] at hpa hpb
        have hset := celQ_set cur T kk (by omega) vx
        have hlx2 : ((x - 1 : Nat) : Int) < ((N - i : Nat) : Int) := by omega
        have hkl : (kk : Int) < (N : Nat) := by omega
        have hcx : cpt d (i + x + 1) = if d[i + x]! = d[i + x - 1]! then cpt d (i + x) else cpt d (i + x) ++ [d[i + x]!] := by
          show (if i + x > 0 ∧ d[i + x]! = d[i + x - 1]! then cpt d (i + x) else cpt d (i + x) ++ [d[i + x]!]) = _
          by_cases q : d[i + x]! = d[i + x - 1]!
          · rw [if_pos ⟨by omega, q⟩, if_pos q]
          · rw [if_neg (fun r => q r.2), if_neg q]
        have hdr2 : cur.toList.drop (i + x) = d.toList.drop (i + x) := by
          have := congrArg (List.drop 1) hdr
          rwa [List.drop_drop, List.drop_drop, show i + x - 1 + 1 = i + x by omega] at this
        have hb' : hh id = some ⟨ver, celQ cur T⟩ := hb
        generalize celQ cur T = L1 at hpa hpb hb' hlen hset
        refine Btf @hlx ?_
        refine AWP.skip ?_
        refine Ev ?_
        refine AWP.seq ?_
        refine AWP.block ?_
        refine AWP.seqRegD [] [] [] mixed (by kernel_rfl) (by kernel_rfl) (fun K hK => .inl ?_) (by kernel_rfl); simp -implicitDefEqProofs only [go_sem, ↓reduceIte, Nat.reduceEqDiff, Nat.reduceAdd, Nat.reduceLT, Nat.reduceLeDiff, reduceCtorEq, Int.toNat_natCast, e4, e5, w3, hb', hpa, hpb, hlx, hlx2]
        repeat (refine ⟨by omega, ?_⟩)
        by_cases hq : EqC vx vy
        · have he : d[i + x]! = d[i + x - 1]! := by rw [hvx, hvy]; exact eqC_iff.1 hq
          rw [if_pos he] at hcx
          refine hK _ _ _ ?_; clear hK K
          refine Bsf @hq ?_
          refine Raf (jn2 @e5 @w4) (fun E K hE hK => ?_); refine hK _ _ _ ?_; clear hE hK K E
          exact ⟨N - i - (x + 1), by omega, x + 1, kk, cur, rfl, by omega, by omega, hk1, by omega, by rw [htk, ← hcx]; rfl, hdr2, RwAt.cut hid hT hlow ⟨_, b, ι, h, w, x0⟩ rfl hs (by exact Erf @hb) ho (by exact Ecf @e0), by exact Ecf @e3, by refine Evf @e4 ?_; exact cutV_win hid, by exact Er⟩
        · have he : ¬ d[i + x]! = d[i + x - 1]! := by rw [hvx, hvy]; exact fun q => hq (eqC_iff.2 q)
          rw [if_neg he] at hcx
          refine hK _ _ _ ?_; clear hK K
          refine Btf @hq ?_
          refine Rgf (jn3 @e0 @e3 (jn7 @e4 @e5 @hb' @hpa @hlx @hkl @hset)) (fun E K hE hK => ?_)
          repeat (first | (refine ⟨⟨by omega, by omega⟩, ?_⟩) | (refine ⟨by omega, ?_⟩))
          refine hK _ _ _ ?_; clear hE hK K E
          refine Raf (jn2 @e3 @w5) (fun E K hE hK => ?_); refine hK _ _ _ ?_; clear hE hK K E
          refine Ev ?_
          refine Raf (jn2 @e5 @w4) (fun E K hE hK => ?_); refine hK _ _ _ ?_; clear hE hK K E
          refine ⟨N - i - (x + 1), by omega, x + 1, kk + 1, cur.setIfInBounds kk vx, rfl, by omega, by omega, by omega, by omega, ?_, ?_, RwAt.cut hid hT hlow ⟨_, b, ι, h, w, x0⟩ rfl (by rw [Array.size_setIfInBounds, hs]) (by exact Er) (fun y hy hne => by refine Evf @hne ?_; exact ho y hy hne) (by exact Ecf @e0), by exact Er, by refine Evf @e4 ?_; exact cutV_win hid, by exact Er⟩
          · rw [Array.toList_setIfInBounds, take_set1' _ _ (by rw [Array.length_toList]; omega), htk, show i + (x + 1) = i + x + 1 from rfl, hcx, hvx]
          · rw [Array.toList_setIfInBounds, show i + (x + 1) - 1 = i + x by omega, List.drop_set_of_lt (by omega), hdr2]
      · have hxe : i + x = N := by omega
        rw [hxe] at htk
        have hsp := cellsplit cur T kk
        have hkl : (cur.toList.take kk).length = kk := by rw [List.length_take, Array.length_toList]; omega
        have hb2 : hh id = some ⟨ver, celQ cur T⟩ := hb
        rw [hsp, htk] at hb2
        rw [htk] at hkl
        obtain ⟨l2, hl2⟩ : ∃ l2, cpt d N = l2 := ⟨_, rfl⟩
        rw [hl2] at hb2 hkl ⊢
        have hlen2 : ((l2.map encQ).flatten.map Cell.p).length = kk * 1 := by rw [List.length_map, okEs_len (okEs_q _), List.length_map, hkl]
        generalize hT1 : ((cur.toList.drop kk).map encQ).flatten.map Cell.p ++ T = T1 at hb2
        have hT1l : T1.length = (N - kk) * 1 + T.length := by
          rw [← hT1, List.length_append, List.length_map, okEs_len (okEs_q _), List.length_map, List.length_drop, Array.length_toList, hs]
        have hT1low : lowCs 0 T1 = true := by rw [← hT1]; exact lowCs_app (lowCs_p _ _) hT
        generalize hA : (l2.map encQ).flatten.map Cell.p = A at hb2 hlen2
        clear hsp hb
        refine Bff @hlx ?_
        refine AWP.exit ?_
        refine Ev ?_
        refine Rgf (jn3 @e0 @e3 @hb2) (fun E K hE hK => ?_)
        refine ⟨⟨by omega, by omega⟩, ?_⟩
        rw [if_neg (show ¬ cap = kk by omega)]
        refine BiR.of ?_
        refine BiK.clear (e := 9) (sz := 1) ty_slE_42 ty_tzero_9 rfl (by decide) hb2 rfl (by simp only [List.length_append, hlen2, hT1l]; omega) ?_
        rw [spl_tail hlen2.symm]
        refine Ev ?_
        refine hK _ _ _ ?_; clear hE hK K E
        refine Rgf (jn2 @e0 @e3) (fun E K hE hK => ?_)
        refine ⟨⟨by omega, by omega⟩, ?_⟩
        refine hK _ _ _ ?_; clear hE hK K E
        refine AWP.ret ?_
        refine Ev ?_
        rw [← hA]
        refine Ends.turn hn H hid (fun x hx => ?_) (lowCs_app (lowCs_p _ _) (lowCs_app (lowCs_repl rfl _) (lowCs_mono (Nat.zero_le _) (lowCs_drop hT1low _)))) (r0 := winQ id ver cap l2.length)
          (by rw [show Tryz.f67.results.toList = [.tmp 2] from rfl, hkl]; exact Er) (.one (.inl ⟨rfl, by simp [lowC, hid]⟩)) ⟨rfl, repl [Cell.p (PD.v (.string ByteArray.empty))] (N - kk) ++ List.drop (repl [Cell.p (PD.v (.string ByteArray.empty))] (N - kk)).length T1, lowCs_app (lowCs_repl rfl _) (lowCs_drop hT1low _), ?_, rfl⟩
        · by_cases hx2 : x = id
          · subst hx2; exact (upd_same _ _ _).trans (upd_same _ _ _).symm
          · exact (upd_ne _ _ _ _ hx2).trans ((ho x hx hx2).trans (upd_ne _ _ _ _ hx2).symm)
        · simp only [List.length_append, List.length_drop, hT1l, hkl, repl_length, List.length_cons, List.length_nil]
          omega
    · refine hK _ _ _ ?_; clear hK K
      refine Bsf @hq ?_
      refine Raf (jn2 @e3 @w2) (fun E K hE hK => ?_); refine hK _ _ _ ?_; clear hE hK K E
      refine ⟨d.size - (i + 1), by omega, i + 1, rfl, by omega, by omega, fun j h0 h1 => ?_, RwAt.cut hid hT hlow ⟨_, b, ι, h, w, x0⟩ rfl rfl (by exact Erf @hb) ho (by exact Ecf @e0), by exact Er⟩
      by_cases hji : j = i
      · subst hji; rw [hvx, hvy]; exact fun q => hq (eqC_iff.2 q)
      · exact hd j h0 (by omega)
  · refine Bff @hlt ?_
    refine AWP.exit ?_
    refine Ev ?_
    refine Rkf @e0 ?_
    refine AWP.ret ?_
    refine Ev ?_
    have hie : i = d.size := by omega
    subst hie
    exact same _ _ (by rw [cpt_all d d.size (Nat.le_refl _) hd, List.take_of_length_le (by rw [Array.length_toList]; exact Nat.le_refl _)]) (by exact Er) hb ho
end Go.Proofs.YtihgnpboabpchaaGreatDoor.PdSt
namespace Go.Proofs.YtihgnpboabpchaaGreatDoor.PdSt
set_option linter.unusedSimpArgs false
set_option linter.unusedVariables false
set_option linter.unnecessarySimpa false
open Go Am
set_option maxRecDepth 100000
theorem insInner_size (lt : El → El → Bool) (a : Nat) : ∀ (j : Nat) (d : Array El), (Sort.insInner lt a j d).size = d.size := by
  intro j
  induction j with
  | zero => intro d; rfl
  | succ j ih =>
    intro d
    unfold Sort.insInner
    split
    · rw [ih, swp_size]
    · rfl
theorem insertionSort_ok {g : FuncId} {z : El → El → Int} (cm : CmpQ g z) {h : Heap} {b id ver cap : Nat} {d0 : Array El} {T : List Cell} (k : PdAt h id ver d0 T) (hid : id < b) (a e : Nat) (hae : a ≤ e) (he : e ≤ d0.size) :
    ACalls Tryz.prog 159 [winQ id ver cap d0.size, IntV a, IntV e, cloV g] h b 0
      (fun r h' => r = .tup [] ∧ h' = upd h id (rowQ ver (Sort.insertionSort (ltZ z) d0 a e) T)) := by
  refine ACalls.enter Tryz.func159 rfl (by simp [Tryz.ntmps159]) (fun ι w hn H => ?_)
  have hlow := H.lowCells
  have hz := k.size
  obtain ⟨N, hN⟩ : ∃ N, d0.size = N := ⟨_, rfl⟩
  have hrow := k.row
  have hT := k.low
  rw [hN] at hz he ⊢
  have w1 := w_add1 (a := a) (by omega)
  unfold Sort.insertionSort
  obtain ⟨df, hdf⟩ : ∃ df, Sort.insOuter (ltZ z) a e (a + 1) d0 = df := ⟨_, rfl⟩
  rw [hdf]
  refine Rkf @w1 ?_
  refine AWP.block ?_
  refine AWP.loopM 0 (fun m st => ∃ i d, m = N + 1 - i ∧ a + 1 ≤ i ∧ i ≤ N + 1 ∧ Sort.insOuter (ltZ z) a e i d = df ∧ RwAt h b id ver cap N T d st ∧ st.t 1 = IntV a ∧ st.t 2 = IntV e ∧ st.t 3 = cloV g ∧ st.t 8 = IntV i) (N + 1 - (a + 1)) rfl ⟨a + 1, d0, rfl, Nat.le_refl _, by omega, hdf, ⟨hN, hrow, fun _ _ _ => rfl, by exact Er⟩, by exact Er, by exact Er, by exact Er, by exact Er⟩ ?_
  clear hdf
  rintro m ⟨t, hh, n⟩ ⟨i, d, rfl, hai, hiN, hd, ⟨hs, hb, ho, e0⟩, e1, e2, e3, e8⟩ hn1
  simp only at hb ho e0 e1 e2 e3 e8 hn1
  subst hn1
  rw [Sort.insOuter] at hd
  refine AWP.seq ?_
  by_cases hlt : i < e
  · have hlt' : (i : Int) < e := by omega
    rw [if_pos hlt] at hd
    refine Rkf (jn3 @e2 @e8 @hlt') ?_
    refine Bt ?_
    refine AWP.skip ?_
    refine Ev ?_
    refine AWP.seq ?_
    refine AWP.block ?_
    refine Rkf @e8 ?_
    refine AWP.block ?_
    obtain ⟨di, hdi⟩ : ∃ di, Sort.insInner (ltZ z) a i d = di := ⟨_, rfl⟩
    have hsi := insInner_size (ltZ z) a i d
    rw [hdi] at hd hsi
    refine AWP.loopM 0 (fun m st => ∃ d, m ≤ i ∧ Sort.insInner (ltZ z) a m d = di ∧ RwAt h b id ver cap N T d st ∧ st.t 1 = IntV a ∧ st.t 2 = IntV e ∧ st.t 3 = cloV g ∧ st.t 8 = IntV i ∧ st.t 9 = IntV m) i rfl ⟨d, Nat.le_refl _, hdi, ⟨hs, hb, ho, by exact Ecf @e0⟩, by exact Ecf @e1, by exact Ecf @e2, by exact Ecf @e3, by exact Ecf @e8, by exact Er⟩ ?_
    clear hdi hsi hb ho e0 e1 e2 e3 e8 hs
    rintro m ⟨t, hh, n⟩ ⟨d, hm, hdi, ⟨hs, hb, ho, e0⟩, e1, e2, e3, e8, e9⟩ hn1
    simp only at hb ho e0 e1 e2 e3 e8 e9 hn1
    subst hn1
    have w2 := w_add1 (a := i) (by omega)
    refine AWP.seq ?_
    by_cases hgt : m > a
    · cases m with
      | zero => omega
      | succ j =>
        have hgt' : ((a : Nat) : Int) < ((j + 1 : Nat) : Int) := by omega
        have w3 := w_sub1 (a := j + 1) (by omega) (by omega)
        rw [Nat.add_sub_cancel] at w3
        unfold Sort.insInner at hdi
        rw [← hs] at e0
        obtain ⟨X, hX⟩ : ∃ X, j + 1 = X := ⟨_, rfl⟩
        rw [hX] at hgt hgt' w3 e9 hdi
        have la : X < d.size := by omega
        have lb : j < d.size := by omega
        have la' : ((X : Nat) : Int) < d.size := by omega
        have lb' : ((j : Nat) : Int) < d.size := by omega
        have hpa := celQ_get d T X la
        have hpb := celQ_get d T j lb
        have hb' : hh id = some ⟨ver, celQ d T⟩ := hb
        have hlL := celQ_len d T
        obtain ⟨vx, hvx⟩ : ∃ v, d[X]! = v := ⟨_, rfl⟩
        obtain ⟨vy, hvy⟩ : ∃ v, d[j]! = v := ⟨_, rfl⟩
        rw [hvx] at hpa
        rw [hvy] at hpb
        generalize celQ d T = L1 at hpa hpb hb' hlL
        refine AWP.seqRegDG [] [] [] mixed (drawF_ok (by kernel_rfl)) (by kernel_rfl) (fun K hK => ?_); simp -implicitDefEqProofs only [go_sem, ↓reduceIte, Nat.reduceEqDiff, Nat.reduceAdd, Nat.reduceLT, Nat.reduceLeDiff, reduceCtorEq, Int.toNat_natCast, e0, e1, e3, e9, hgt', w3, hb', hpa, hpb, la', lb']
        repeat (first | (refine Gdf 21 (jn5 @e0 @e1 @e3 @e9 (jn7 @hgt' @w3 @hb' @hpa @hpb @la' @lb')) ?_) | (refine ⟨by omega, ?_⟩))
        refine Ud (cm.calls vx vy _ _) cm.body ?_
        by_cases hz1 : z vx vy < 0
        · repeat (first | (refine Gdf 21 @hz1 ?_) | (refine ⟨by omega, ?_⟩))
          rw [if_pos (by rw [hvx, hvy]; simp [hgt, hz1])] at hdi
          refine hK _ _ _ ?_; clear hK K
          refine Bt ?_
          refine AWP.skip ?_
          refine Ev ?_
          refine AWP.seq ?_
          refine AWP.block ?_
          clear hpa hpb hlL hb'
          have la : X < d.size := by omega
          have lb : j < d.size := by omega
          have la' : ((X : Nat) : Int) < d.size := by omega
          have lb' : ((j : Nat) : Int) < d.size := by omega
          have hpa := celQ_get d T X la
          have hpb := celQ_get d T j lb
          have hs1 := celQ_set d T X la d[j]!
          have hs2 := celQ_set (d.setIfInBounds X d[j]!) T j (by rw [Array.size_setIfInBounds]; exact lb) d[X]!
          rw [show (d.setIfInBounds X d[j]!).setIfInBounds j d[X]! = Sort.swp d X j from rfl] at hs2
          have hb' : hh id = some ⟨ver, celQ d T⟩ := hb
          have hlL := celQ_len d T
          have hlL2 := celQ_len (d.setIfInBounds X d[j]!) T
          rw [Array.size_setIfInBounds] at hlL2
          obtain ⟨vx, hvx⟩ : ∃ v, d[X]! = v := ⟨_, rfl⟩
          obtain ⟨vy, hvy⟩ : ∃ v, d[j]! = v := ⟨_, rfl⟩
          rw [hvx] at hpa hs2
          rw [hvy] at hpb hs1 hs2 hlL2
          generalize celQ (d.setIfInBounds X vy) T = L2 at hs1 hs2 hlL2
          generalize celQ d T = L1 at hpa hpb hs1 hb' hlL
          refine AWP.rgD [46, 50] [] [id] mixed (by kernel_rfl) (by kernel_rfl) (fun K hK => ?_) (by kernel_rfl); simp -implicitDefEqProofs only [go_sem, ↓reduceIte, Nat.reduceEqDiff, Nat.reduceAdd, Nat.reduceLT, Nat.reduceLeDiff, reduceCtorEq, Int.toNat_natCast, e0, e3, e9, w3, hb', hpa, hpb, la', lb', hs1, hs2]
          repeat (first | (refine ⟨⟨by omega, by omega⟩, ?_⟩) | (refine ⟨by omega, ?_⟩) | (refine ⟨sub_ers _ _, ?_⟩) | (refine ⟨sub_at _ hb', ?_⟩))
          refine hK _ _ _ ?_; clear hK K
          refine Ev ?_
          refine Raf (jn2 @e9 @w3) (fun E K hE hK => ?_); refine hK _ _ _ ?_; clear hE hK K E
          refine ⟨j, by omega, _, by omega, hdi, ?_, by exact Ecf @e1, by exact Ecf @e2, by exact Ecf @e3, by exact Ecf @e8, by exact Er⟩
          exact RwAt.cut hid hT hlow ⟨_, b, ι, h, w, x0⟩ rfl (by rw [swp_size, hs]) (by exact Er) (fun x hx hne => by refine Evf @hne ?_; exact ho x hx hne) (by exact Ecf (jn2 @e0 @hs))
        · repeat (first | (refine Gdf 21 @hz1 ?_) | (refine ⟨by omega, ?_⟩))
          rw [if_neg (by rw [hvx, hvy]; simp [hz1])] at hdi
          subst hdi
          refine hK _ _ _ ?_; clear hK K
          refine Bf ?_
          refine AWP.exit ?_
          refine Ev ?_
          refine Raf (jn2 @e8 @w2) (fun E K hE hK => ?_); refine hK _ _ _ ?_; clear hE hK K E
          refine ⟨N + 1 - (i + 1), by omega, i + 1, _, rfl, by omega, by omega, hd, ?_, by exact Ecf @e1, by exact Ecf @e2, by exact Ecf @e3, by exact Er⟩
          exact RwAt.cut hid hT hlow ⟨_, b, ι, h, w, x0⟩ rfl hs hb ho (by exact Ecf (jn2 @e0 @hs))
    · have hgt' : ¬ ((a : Nat) : Int) < ((m : Nat) : Int) := by omega
      have hdi2 : d = di := by
        cases m with
        | zero => exact hdi
        | succ j => unfold Sort.insInner at hdi; rw [if_neg (by simp; omega)] at hdi; exact hdi
      subst hdi2
      refine AWP.seqRegDG [] [] [] mixed (drawF_ok (by kernel_rfl)) (by kernel_rfl) (fun K hK => ?_); simp -implicitDefEqProofs only [go_sem, ↓reduceIte, Nat.reduceEqDiff, Nat.reduceAdd, Nat.reduceLT, Nat.reduceLeDiff, reduceCtorEq, Int.toNat_natCast, e0, e1, e3, e9, hgt']
      repeat (first | (refine Gdf 21 @hgt' ?_) | (refine ⟨by omega, ?_⟩))
      refine hK _ _ _ ?_; clear hK K
      refine Bf ?_
      refine AWP.exit ?_
      refine Ev ?_
      refine Raf (jn2 @e8 @w2) (fun E K hE hK => ?_); refine hK _ _ _ ?_; clear hE hK K E
      refine ⟨N + 1 - (i + 1), by omega, i + 1, _, rfl, by omega, by omega, hd, ?_, by exact Ecf @e1, by exact Ecf @e2, by exact Ecf @e3, by exact Er⟩
      exact RwAt.cut hid hT hlow ⟨_, b, ι, h, w, x0⟩ rfl hs hb ho (by exact Ecf @e0)
  · have hlt' : ¬ (i : Int) < e := by omega
    rw [if_neg hlt] at hd
    refine Rkf (jn3 @e2 @e8 @hlt') ?_
    refine Bf ?_
    refine AWP.exit ?_
    refine Ev ?_
    subst hd
    exact RwAt.ends (C := ⟨_, b, ι, h, w, x0⟩) hid hT hn H hb ho rfl (frz_tup0 _ _) ⟨rfl, rfl⟩
end Go.Proofs.YtihgnpboabpchaaGreatDoor.PdSt
namespace Go.Proofs.YtihgnpboabpchaaGreatDoor.PdSt
set_option linter.unusedSimpArgs false
set_option linter.unusedVariables false
set_option linter.unnecessarySimpa false
open Go Am
set_option maxRecDepth 100000
def sifC (lt : El → El → Bool) (hi first root : Nat) (d : Array El) : Nat := if 2 * root + 1 + 1 < hi && lt d[first + (2 * root + 1)]! d[first + (2 * root + 1 + 1)]! then 2 * root + 2 else 2 * root + 1
theorem sift_eq (lt : El → El → Bool) (hi first root : Nat) (d : Array El) : Sort.siftDown lt hi first root d = if 2 * root + 1 ≥ hi then d else if lt d[first + root]! d[first + sifC lt hi first root d]! = true then Sort.siftDown lt hi first (sifC lt hi first root d) (Sort.swp d (first + root) (first + sifC lt hi first root d)) else d := by
  rw [Sort.siftDown]
  unfold sifC
  by_cases h1 : 2 * root + 1 ≥ hi
  · rw [dif_pos h1, if_pos h1]
  · rw [dif_neg h1, if_neg h1]
    rw [show first + (2 * root + 1) + 1 = first + (2 * root + 1 + 1) from rfl]
    by_cases h2 : (2 * root + 1 + 1 < hi && lt d[first + (2 * root + 1)]! d[first + (2 * root + 1 + 1)]!) = true
    · rw [if_pos h2, if_pos h2]
      have h3 : 2 * root + 2 < hi := by simp at h2; omega
      by_cases h4 : lt d[first + root]! d[first + (2 * root + 2)]! = true
      · rw [if_neg (by simp [h4]), dif_pos h3, if_pos h4]
      · rw [if_pos (by simpa using h4), if_neg h4]
    · rw [if_neg h2, if_neg h2]
      by_cases h4 : lt d[first + root]! d[first + (2 * root + 1)]! = true
      · rw [if_neg (by simp [h4]), if_pos h4]
      · rw [if_pos (by simpa using h4), if_neg h4]
theorem siftDown_ok {g : FuncId} {z : El → El → Int} (cm : CmpQ g z) {h : Heap} {b id ver cap : Nat} {d0 : Array El} {T : List Cell} (k : PdAt h id ver d0 T) (hid : id < b) (lo hi first : Nat) (hf : first + hi ≤ d0.size) (hlo : lo ≤ 1000000000) :
    ACalls Tryz.prog 197 [winQ id ver cap d0.size, IntV lo, IntV hi, IntV first, cloV g] h b 0
      (fun r h' => r = .tup [] ∧ h' = upd h id (rowQ ver (Sort.siftDown (ltZ z) hi first lo d0) T)) := by
  refine ACalls.enter Tryz.func197 rfl (by simp [Tryz.ntmps197]) (fun ι w hn H => ?_)
  have hlow := H.lowCells
  have hz := k.size
  obtain ⟨N, hN⟩ : ∃ N, d0.size = N := ⟨_, rfl⟩
  have hrow := k.row
  have hT := k.low
  rw [hN] at hz hf ⊢
  refine Rk ?_
  refine AWP.block ?_
  refine AWP.loopM 0 (fun m st => ∃ root d, m = 2000000001 - root ∧ root ≤ 2000000000 ∧ Sort.siftDown (ltZ z) hi first root d = Sort.siftDown (ltZ z) hi first lo d0 ∧ RwAt h b id ver cap N T d st ∧ st.t 2 = IntV hi ∧ st.t 3 = IntV first ∧ st.t 4 = cloV g ∧ st.t 10 = IntV root) (2000000001 - lo) rfl ⟨lo, d0, rfl, by omega, rfl, ⟨hN, hrow, fun _ _ _ => rfl, by exact Er⟩, by exact Er, by exact Er, by exact Er, by exact Er⟩ ?_
  rintro m ⟨t, hh, n⟩ ⟨root, d, rfl, hroot, hd, ⟨hs, hb, ho, e0⟩, e2, e3, e4, e10⟩ hn1
  simp only at hb ho e0 e2 e3 e4 e10 hn1
  subst hn1
  rw [sift_eq] at hd
  have fin : ∀ (t : Nat → AV), Sort.siftDown (ltZ z) hi first lo d0 = d → Am.Ends Tryz.prog ⟨Tryz.f197.ntmps, b, ι, h, w, x0⟩ Tryz.f197 0 (fun r h' => r = .tup [] ∧ h' = upd h id (rowQ ver (Sort.siftDown (ltZ z) hi first lo d0) T)) ⟨t, hh, 0⟩ := by
    intro t e
    exact RwAt.ends (C := ⟨_, b, ι, h, w, x0⟩) hid hT hn H hb ho rfl (frz_tup0 _ _) ⟨rfl, by rw [e]⟩
  have m1 : IntKind.i64.wrap (2 * (root : Int)) = ((2 * root : Nat) : Int) := by rw [wrap_i64 (by omega) (by omega)]; omega
  have m2 := w_add1 (a := 2 * root) (by omega)
  refine AWP.block ?_
  refine Rkf (jn3 @e10 @m1 @m2) ?_
  refine AWP.seq ?_
  by_cases hge : 2 * root + 1 ≥ hi
  · have hge' : ((2 * root + 1 : Nat) : Int) ≥ (hi : Int) := by omega
    rw [if_pos hge] at hd
    refine Rkf (jn2 @e2 @hge') ?_
    refine Bt ?_
    refine AWP.exit ?_
    refine Ev ?_
    exact fin _ hd.symm
  have hge' : ¬ ((2 * root + 1 : Nat) : Int) ≥ (hi : Int) := by omega
  rw [if_neg hge] at hd
  refine Rkf (jn2 @e2 @hge') ?_
  refine Bs ?_
  have m3 := w_add1 (a := 2 * root + 1) (by omega)
  have m4 := w_add (a := first) (c := 2 * root + 1) (by omega)
  have m5 := w_add1 (a := first + (2 * root + 1)) (by omega)
  rw [show first + (2 * root + 1) + 1 = first + (2 * root + 1 + 1) from rfl] at m5
  have hszd : d.size ≤ 1000000000 := by omega
  rw [← hs] at e0 hf
  obtain ⟨c, hc⟩ : ∃ c, sifC (ltZ z) hi first root d = c := ⟨_, rfl⟩
  rw [hc] at hd
  have hch : c < hi := by
    rw [← hc]; unfold sifC
    split
    · rename_i q; simp at q; omega
    · omega
  have hcr : root < c := by
    rw [← hc]; unfold sifC
    split <;> omega
  refine AWP.mid (fun st => st.n = 0 ∧ st.h = hh ∧ st.t 0 = winQ id ver cap d.size ∧ st.t 2 = IntV hi ∧ st.t 3 = IntV first ∧ st.t 4 = cloV g ∧ st.t 10 = IntV root ∧ st.t 11 = IntV c) ?_ ?_
  · unfold sifC at hc
    by_cases h1 : 2 * root + 1 + 1 < hi
    · have h1' : ((2 * root + 1 + 1 : Nat) : Int) < (hi : Int) := by omega
      have la : (first + (2 * root + 1)) < d.size := by omega
      have lb : (first + (2 * root + 1 + 1)) < d.size := by omega
      have la' : (((first + (2 * root + 1)) : Nat) : Int) < d.size := by omega
      have lb' : (((first + (2 * root + 1 + 1)) : Nat) : Int) < d.size := by omega
      have hpa := celQ_get d T (first + (2 * root + 1)) la
      have hpb := celQ_get d T (first + (2 * root + 1 + 1)) lb
      have hb' : hh id = some ⟨ver, celQ d T⟩ := hb
      have hlL := celQ_len d T
      obtain ⟨vx, hvx⟩ : ∃ v, d[(first + (2 * root + 1))]! = v := ⟨_, rfl⟩
      obtain ⟨vy, hvy⟩ : ∃ v, d[(first + (2 * root + 1 + 1))]! = v := ⟨_, rfl⟩
      rw [hvx] at hpa
      rw [hvy] at hpb
      generalize celQ d T = L1 at hpa hpb hb' hlL
      refine AWP.seqRegDG [] [] [] mixed (drawF_ok (by kernel_rfl)) (by kernel_rfl) (fun K hK => ?_); simp -implicitDefEqProofs only [go_sem, ↓reduceIte, Nat.reduceEqDiff, Nat.reduceAdd, Nat.reduceLT, Nat.reduceLeDiff, reduceCtorEq, Int.toNat_natCast, e0, e2, e3, e4, m3, m4, m5, h1', hb', hpa, hpb, la', lb']
      repeat (first | (refine Gdf 23 (jn7 @e0 @e2 @e3 @e4 @m3 @m4 (jn7 @m5 @h1' @hb' @hpa @hpb @la' @lb')) ?_) | (refine ⟨by omega, ?_⟩))
      refine Ud (cm.calls vx vy _ _) cm.body ?_
      by_cases hlt : z vx vy < 0
      · repeat (first | (refine Gdf 23 @hlt ?_) | (refine ⟨by omega, ?_⟩))
        rw [if_pos (by rw [hvx, hvy]; simp [h1, hlt])] at hc
        subst hc
        refine hK _ _ _ ?_; clear hK K
        refine Bt ?_
        refine Raf @m3 (fun E K hE hK => ?_); refine hK _ _ _ ?_; clear hE hK K E
        exact ⟨rfl, rfl, by exact Ecf @e0, by exact Ecf @e2, by exact Ecf @e3, by exact Ecf @e4, by exact Ecf @e10, by exact Er⟩
      · repeat (first | (refine Gdf 23 @hlt ?_) | (refine ⟨by omega, ?_⟩))
        rw [if_neg (by rw [hvx, hvy]; simp [hlt])] at hc
        subst hc
        refine hK _ _ _ ?_; clear hK K
        refine Bf ?_
        refine AWP.skip ?_
        exact ⟨rfl, rfl, by exact Ecf @e0, by exact Ecf @e2, by exact Ecf @e3, by exact Ecf @e4, by exact Ecf @e10, by exact Er⟩
    · have h1' : ¬ ((2 * root + 1 + 1 : Nat) : Int) < (hi : Int) := by omega
      rw [if_neg (by simp [h1])] at hc
      subst hc
      refine AWP.seqRegDG [] [] [] mixed (drawF_ok (by kernel_rfl)) (by kernel_rfl) (fun K hK => ?_); simp -implicitDefEqProofs only [go_sem, ↓reduceIte, Nat.reduceEqDiff, Nat.reduceAdd, Nat.reduceLT, Nat.reduceLeDiff, reduceCtorEq, Int.toNat_natCast, e0, e2, e3, e4, m3, m4, m5, h1']
      repeat (first | (refine Gdf 23 @h1' ?_) | (refine ⟨by omega, ?_⟩))
      refine hK _ _ _ ?_; clear hK K
      refine Bf ?_
      refine AWP.skip ?_
      exact ⟨rfl, rfl, by exact Ecf @e0, by exact Ecf @e2, by exact Ecf @e3, by exact Ecf @e4, by exact Ecf @e10, by exact Er⟩
  rintro ⟨t, hh, n⟩ ⟨rfl, rfl, e0, e2, e3, e4, e10, e11⟩
  simp only at e0 e2 e3 e4 e10 e11
  clear hc m3 m4 m5 m1 m2
  have m6 := w_add (a := first) (c := root) (by omega)
  have m7 := w_add (a := first) (c := c) (by omega)
  refine AWP.seq ?_
  obtain ⟨X, hX⟩ : ∃ X, first + root = X := ⟨_, rfl⟩
  obtain ⟨Y, hY⟩ : ∃ Y, first + c = Y := ⟨_, rfl⟩
  rw [hX] at m6 hd
  rw [hY] at m7 hd
  have la : X < d.size := by omega
  have lb : Y < d.size := by omega
  have la' : ((X : Nat) : Int) < d.size := by omega
  have lb' : ((Y : Nat) : Int) < d.size := by omega
  have hpa := celQ_get d T X la
  have hpb := celQ_get d T Y lb
  have hb' : hh id = some ⟨ver, celQ d T⟩ := hb
  have hlL := celQ_len d T
  obtain ⟨vx, hvx⟩ : ∃ v, d[X]! = v := ⟨_, rfl⟩
  obtain ⟨vy, hvy⟩ : ∃ v, d[Y]! = v := ⟨_, rfl⟩
  rw [hvx] at hpa
  rw [hvy] at hpb
  generalize celQ d T = L1 at hpa hpb hb' hlL
  refine AWP.seqRegD [] [] [] mixed (by kernel_rfl) (by kernel_rfl) (fun K hK => .inl ?_) (by kernel_rfl); simp -implicitDefEqProofs only [go_sem, ↓reduceIte, Nat.reduceEqDiff, Nat.reduceAdd, Nat.reduceLT, Nat.reduceLeDiff, reduceCtorEq, Int.toNat_natCast, e0, e3, e4, e10, e11, m6, m7, hb', hpa, hpb, la', lb']
  repeat (refine ⟨by omega, ?_⟩)
  refine Ud (cm.calls vx vy _ _) cm.body ?_
  by_cases hlt : z vx vy < 0
  · rw [if_pos (by rw [hvx, hvy]; simp [hlt])] at hd
    refine hK _ _ _ ?_; clear hK K
    refine Bsf @hlt ?_
    clear hpa hpb hlL hb'
    have la : X < d.size := by omega
    have lb : Y < d.size := by omega
    have la' : ((X : Nat) : Int) < d.size := by omega
    have lb' : ((Y : Nat) : Int) < d.size := by omega
    have hpa := celQ_get d T X la
    have hpb := celQ_get d T Y lb
    have hs1 := celQ_set d T X la d[Y]!
    have hs2 := celQ_set (d.setIfInBounds X d[Y]!) T Y (by rw [Array.size_setIfInBounds]; exact lb) d[X]!
    rw [show (d.setIfInBounds X d[Y]!).setIfInBounds Y d[X]! = Sort.swp d X Y from rfl] at hs2
    have hb' : hh id = some ⟨ver, celQ d T⟩ := hb
    have hlL := celQ_len d T
    have hlL2 := celQ_len (d.setIfInBounds X d[Y]!) T
    rw [Array.size_setIfInBounds] at hlL2
    obtain ⟨vx, hvx⟩ : ∃ v, d[X]! = v := ⟨_, rfl⟩
    obtain ⟨vy, hvy⟩ : ∃ v, d[Y]! = v := ⟨_, rfl⟩
    rw [hvx] at hpa hs2
    rw [hvy] at hpb hs1 hs2 hlL2
    generalize celQ (d.setIfInBounds X vy) T = L2 at hs1 hs2 hlL2
    generalize celQ d T = L1 at hpa hpb hs1 hb' hlL
    refine AWP.seq ?_
    refine AWP.rgD [72, 78] [] [id] mixed (by kernel_rfl) (by kernel_rfl) (fun K hK => ?_) (by kernel_rfl); simp -implicitDefEqProofs only [go_sem, ↓reduceIte, Nat.reduceEqDiff, Nat.reduceAdd, Nat.reduceLT, Nat.reduceLeDiff, reduceCtorEq, Int.toNat_natCast, e0, e3, e10, e11, m6, m7, hb', hpa, hpb, la', lb', hs1, hs2]
    repeat (first | (refine ⟨⟨by omega, by omega⟩, ?_⟩) | (refine ⟨by omega, ?_⟩) | (refine ⟨sub_ers _ _, ?_⟩) | (refine ⟨sub_at _ hb', ?_⟩))
    refine hK _ _ _ ?_; clear hK K
    refine Ev ?_
    refine Raf @e11 (fun E K hE hK => ?_); refine hK _ _ _ ?_; clear hE hK K E
    refine ⟨2000000001 - c, by omega, c, _, rfl, by omega, hd, ?_, by exact Erf @e2, by exact Erf @e3, by exact Erf @e4, by exact Er⟩
    exact RwAt.cut hid hT hlow ⟨_, b, ι, h, w, x0⟩ rfl (by rw [swp_size, hs]) (by exact Er) (fun x hx hne => by refine Evf @hne ?_; exact ho x hx hne) (by exact Ecf (jn2 @e0 @hs))
  · rw [if_neg (by rw [hvx, hvy]; simp [hlt])] at hd
    refine hK _ _ _ ?_; clear hK K
    refine Btf @hlt ?_
    refine AWP.ret ?_
    refine Ev ?_
    exact fin _ hd.symm
theorem sift_size (lt : El → El → Bool) (hi first : Nat) : ∀ (n root : Nat) (d : Array El), 2000000001 - root ≤ n → root ≤ 2000000000 → first + hi ≤ d.size → d.size ≤ 1000000000 → (Sort.siftDown lt hi first root d).size = d.size := by
  intro n
  induction n with
  | zero => intro root d h1 h2; omega
  | succ n ih =>
    intro root d h1 h2 h3 h4
    rw [sift_eq]
    split
    · rfl
    · split
      · rename_i hge _
        have hc : sifC lt hi first root d = 2 * root + 1 ∨ sifC lt hi first root d = 2 * root + 2 ∧ 2 * root + 1 + 1 < hi := by
          unfold sifC
          split
          · rename_i q; simp at q; exact .inr ⟨rfl, q.1⟩
          · exact .inl rfl
        rw [ih _ _ (by omega) (by omega) (by rw [swp_size]; exact h3) (by rw [swp_size]; exact h4), swp_size]
      · rfl
theorem heapSort_ok {g : FuncId} {z : El → El → Int} (cm : CmpQ g z) {h : Heap} {b id ver cap : Nat} {d0 : Array El} {T : List Cell} (k : PdAt h id ver d0 T) (hid : id < b) (a e : Nat) (hae : a ≤ e) (he : e ≤ d0.size) :
    ACalls Tryz.prog 160 [winQ id ver cap d0.size, IntV a, IntV e, cloV g] h b 0
      (fun r h' => r = .tup [] ∧ h' = upd h id (rowQ ver (Sort.heapSort (ltZ z) d0 a e) T)) := by
  refine ACalls.enter Tryz.func160 rfl (by simp [Tryz.ntmps160]) (fun ι w hn H => ?_)
  have hlow := H.lowCells
  have hz := k.size
  obtain ⟨N, hN⟩ : ∃ N, d0.size = N := ⟨_, rfl⟩
  have hrow := k.row
  have hT := k.low
  rw [hN] at hz he ⊢
  obtain ⟨l, hl⟩ : ∃ l, e - a = l := ⟨_, rfl⟩
  have w1 : IntKind.i64.wrap ((e : Int) - (a : Int)) = (l : Int) := by rw [w_sub hae (by omega)]; omega
  unfold Sort.heapSort
  rw [hl]
  have h20 : ¬ (2 : Int) = 0 := by decide
  have w2 : IntKind.i64.wrap (Int.tdiv (IntKind.i64.wrap ((l : Int) - 1)) 2) = (((l - 1) / 2 : Nat) : Int) := by
    have e1 : IntKind.i64.wrap ((l : Int) - 1) = (l : Int) - 1 := wrap_i64 (by omega) (by omega)
    rw [e1]
    rcases Nat.eq_zero_or_pos l with q | q
    · subst q; decide
    · rw [show (l : Int) - 1 = ((l - 1 : Nat) : Int) by omega, w_quo2 (by omega)]
  obtain ⟨p, hp⟩ : ∃ p, (l - 1) / 2 = p := ⟨_, rfl⟩
  rw [hp] at w2 ⊢
  have kk : ∀ (hh : Heap) (d : Array El), RwAt h b id ver cap N T d ⟨fun _ => winQ id ver cap N, hh, 0⟩ → PdAt hh id ver d T := fun hh d r => ⟨r.row, hT, by rw [r.size]; exact hz⟩
  refine Rk ?_
  refine Rk ?_
  refine Rkf @w1 ?_
  obtain ⟨df, hdf⟩ : ∃ df, Sort.heapBuild (ltZ z) l a (p + 1) d0 = df := ⟨_, rfl⟩
  rw [hdf]
  refine AWP.mid (fun st => st.n = 0 ∧ RwAt h b id ver cap N T df st ∧ st.t 3 = cloV g ∧ st.t 8 = IntV a ∧ st.t 9 = IntV (0 : Nat) ∧ st.t 10 = IntV l) ?_ ?_
  · refine Rkf (jn2 @w2 @h20) ?_
    refine AWP.block ?_
    refine AWP.loopM 0 (fun m st => ∃ d, m ≤ p + 1 ∧ Sort.heapBuild (ltZ z) l a m d = df ∧ RwAt h b id ver cap N T d st ∧ st.t 3 = cloV g ∧ st.t 8 = IntV a ∧ st.t 9 = IntV (0 : Nat) ∧ st.t 10 = IntV l ∧ st.t 11 = .one (.p (.v (.int .i64 ((m : Int) - 1))))) (p + 1) rfl ⟨d0, Nat.le_refl _, hdf, ⟨hN, hrow, fun _ _ _ => rfl, by exact Er⟩, by exact Er, by exact Er, by exact Er, by exact Er, by exact Ecf (show ((p + 1 : Nat) : Int) - 1 = (p : Int) by omega)⟩ ?_
    rintro m ⟨t, hh, n⟩ ⟨d, hm, hd, ⟨hs, hb, ho, e0⟩, e3, e8, e9, e10, e11⟩ hn1
    simp only at hb ho e0 e3 e8 e9 e10 e11 hn1
    subst hn1
    refine AWP.seq ?_
    cases m with
    | zero =>
      have hge : ¬ (((0 : Nat) : Int) - 1) ≥ 0 := by decide
      refine Rkf (jn2 @e11 @hge) ?_
      refine Bf ?_
      refine AWP.exit ?_
      subst hd
      exact ⟨rfl, ⟨hs, hb, ho, by exact Ecf @e0⟩, by exact Ecf @e3, by exact Ecf @e8, by exact Ecf @e9, by exact Ecf @e10⟩
    | succ m =>
      have hge : (((m + 1 : Nat) : Int) - 1) ≥ 0 := by omega
      have hm1 : (((m + 1 : Nat) : Int) - 1) = (m : Int) := by omega
      rw [hm1] at e11 hge
      have k1 := siftDown_ok cm (b := b + 0) (cap := cap) (kk hh d ⟨hs, hb, ho, rfl⟩) hid m l a (by omega) (by omega)
      have hsz := sift_size (ltZ z) l a (2000000001 - m) m d (Nat.le_refl _) (by omega) (by omega) (by omega)
      rw [hs] at k1 hsz
      unfold Sort.heapBuild at hd
      obtain ⟨d2, hd2⟩ : ∃ d2, Sort.siftDown (ltZ z) l a m d = d2 := ⟨_, rfl⟩
      rw [hd2] at k1 hsz hd
      have w3 : IntKind.i64.wrap ((m : Int) - 1) = (m : Int) - 1 := wrap_i64 (by omega) (by omega)
      refine Rkf (jn2 @e11 @hge) ?_
      refine Bt ?_
      refine AWP.skip ?_
      refine Ev ?_
      refine AWP.seq ?_
      refine AWP.block ?_
      refine Raf (jn5 @e0 @e3 @e8 @e10 @e11) (fun E K hE hK => ?_)
      refine Us k1 body_197 ?_
      refine hK _ _ _ ?_; clear hE hK K E
      refine Ev ?_
      refine Raf (jn2 @e11 @w3) (fun E K hE hK => ?_); refine hK _ _ _ ?_; clear hE hK K E
      refine ⟨m, by omega, d2, by omega, hd, ?_, by exact Erf @e3, by exact Erf @e8, by exact Erf @e9, by exact Erf @e10, by exact Er⟩
      exact RwAt.cut hid hT hlow ⟨_, b, ι, h, w, x0⟩ rfl hsz (by exact Er) (fun x hx hne => by refine Evf @hne ?_; exact ho x hx hne) (by exact Ecf @e0)
  rintro ⟨t, hh, n⟩ ⟨rfl, ⟨hs, hb, ho, e0⟩, e3, e8, e9, e10⟩
  simp only at hb ho e0 e3 e8 e9 e10
  clear hdf
  have w4 : IntKind.i64.wrap ((l : Int) - 1) = (l : Int) - 1 := wrap_i64 (by omega) (by omega)
  refine Rkf (jn2 @e10 @w4) ?_
  refine AWP.block ?_
  refine AWP.loopM 0 (fun m st => ∃ d, m ≤ l ∧ Sort.heapPop (ltZ z) a m d = Sort.heapPop (ltZ z) a l df ∧ RwAt h b id ver cap N T d st ∧ st.t 3 = cloV g ∧ st.t 8 = IntV a ∧ st.t 9 = IntV (0 : Nat) ∧ st.t 12 = .one (.p (.v (.int .i64 ((m : Int) - 1))))) l rfl ⟨df, Nat.le_refl _, rfl, ⟨hs, hb, ho, by exact Ecf @e0⟩, by exact Ecf @e3, by exact Ecf @e8, by exact Ecf @e9, by exact Er⟩ ?_
  clear hb ho e0 e3 e8 e9 e10 hs
  rintro m ⟨t, hh, n⟩ ⟨d, hm, hd, ⟨hs, hb, ho, e0⟩, e3, e8, e9, e12⟩ hn1
  simp only at hb ho e0 e3 e8 e9 e12 hn1
  subst hn1
  refine AWP.seq ?_
  cases m with
  | zero =>
    have hge : ¬ (((0 : Nat) : Int) - 1) ≥ 0 := by decide
    refine Rkf (jn2 @e12 @hge) ?_
    refine Bf ?_
    refine AWP.exit ?_
    refine Ev ?_
    exact RwAt.ends (C := ⟨_, b, ι, h, w, x0⟩) hid hT hn H hb ho rfl (frz_tup0 _ _) ⟨rfl, by rw [← hd]; rfl⟩
  | succ m =>
    have hge : (((m + 1 : Nat) : Int) - 1) ≥ 0 := by omega
    have hm1 : (((m + 1 : Nat) : Int) - 1) = (m : Int) := by omega
    rw [hm1] at e12 hge
    have m7 := w_add (a := a) (c := m) (by omega)
    obtain ⟨Y, hY⟩ : ∃ Y, a + m = Y := ⟨_, rfl⟩
    rw [show Sort.heapPop (ltZ z) a (m + 1) d = Sort.heapPop (ltZ z) a m (Sort.siftDown (ltZ z) m a 0 (Sort.swp d a (a + m))) from rfl] at hd
    rw [hY] at m7 hd
    have w3 : IntKind.i64.wrap ((m : Int) - 1) = (m : Int) - 1 := wrap_i64 (by omega) (by omega)
    refine Rkf (jn2 @e12 @hge) ?_
    refine Bt ?_
    refine AWP.skip ?_
    refine Ev ?_
    refine AWP.seq ?_
    refine AWP.block ?_
    rw [← hs] at e0
    have la : a < d.size := by omega
    have lb : Y < d.size := by omega
    have la' : ((a : Nat) : Int) < d.size := by omega
    have lb' : ((Y : Nat) : Int) < d.size := by omega
    have hpa := celQ_get d T a la
    have hpb := celQ_get d T Y lb
    have hs1 := celQ_set d T a la d[Y]!
    have hs2 := celQ_set (d.setIfInBounds a d[Y]!) T Y (by rw [Array.size_setIfInBounds]; exact lb) d[a]!
    rw [show (d.setIfInBounds a d[Y]!).setIfInBounds Y d[a]! = Sort.swp d a Y from rfl] at hs2
    have hb' : hh id = some ⟨ver, celQ d T⟩ := hb
    have hlL := celQ_len d T
    have hlL2 := celQ_len (d.setIfInBounds a d[Y]!) T
    rw [Array.size_setIfInBounds] at hlL2
    obtain ⟨vx, hvx⟩ : ∃ v, d[a]! = v := ⟨_, rfl⟩
    obtain ⟨vy, hvy⟩ : ∃ v, d[Y]! = v := ⟨_, rfl⟩
    rw [hvx] at hpa hs2
    rw [hvy] at hpb hs1 hs2 hlL2
    generalize celQ (d.setIfInBounds a vy) T = L2 at hs1 hs2 hlL2
    generalize celQ d T = L1 at hpa hpb hs1 hb' hlL
    refine AWP.seq ?_
    refine AWP.rgD [47, 51] [] [id] mixed (by kernel_rfl) (by kernel_rfl) (fun K hK => ?_) (by kernel_rfl); simp -implicitDefEqProofs only [go_sem, ↓reduceIte, Nat.reduceEqDiff, Nat.reduceAdd, Nat.reduceLT, Nat.reduceLeDiff, reduceCtorEq, Int.toNat_natCast, e0, e8, e12, m7, hb', hpa, hpb, la', lb', hs1, hs2]
    repeat (first | (refine ⟨⟨by omega, by omega⟩, ?_⟩) | (refine ⟨by omega, ?_⟩) | (refine ⟨sub_ers _ _, ?_⟩) | (refine ⟨sub_at _ hb', ?_⟩))
    refine hK _ _ _ ?_; clear hK K
    refine Ev ?_
    have hd1 := swp_size d a Y
    have k1 := siftDown_ok cm (b := b + 0) (cap := cap) (kk (upd hh id (rowQ ver (Sort.swp d a Y) T)) (Sort.swp d a Y) ⟨by rw [hd1, hs], upd_same hh id _, fun x hx hne => (upd_ne _ _ _ _ hne).trans (ho x hx hne), rfl⟩) hid 0 m a (by omega) (by omega)
    have hsz := sift_size (ltZ z) m a 2000000001 0 (Sort.swp d a Y) (by omega) (by omega) (by omega) (by omega)
    rw [hd1, hs] at hsz
    rw [hd1] at k1
    obtain ⟨d2, hd2⟩ : ∃ d2, Sort.siftDown (ltZ z) m a 0 (Sort.swp d a Y) = d2 := ⟨_, rfl⟩
    rw [hd2] at k1 hsz hd
    refine Raf (jn5 @e0 @e3 @e8 @e9 @e12) (fun E K hE hK => ?_)
    refine Us k1 body_197 ?_
    refine hK _ _ _ ?_; clear hE hK K E
    refine Ev ?_
    refine Raf (jn2 @e12 @w3) (fun E K hE hK => ?_); refine hK _ _ _ ?_; clear hE hK K E
    refine ⟨m, by omega, d2, by omega, hd, ?_, by exact Erf @e3, by exact Erf @e8, by exact Erf @e9, by exact Er⟩
    exact RwAt.cut hid hT hlow ⟨_, b, ι, h, w, x0⟩ rfl hsz (by exact Er) (fun x hx hne => by refine Evf @hne ?_; exact ho x hx hne) (by exact Ecf (jn2 @e0 @hs))
end Go.Proofs.YtihgnpboabpchaaGreatDoor.PdSt
namespace Go.Proofs.YtihgnpboabpchaaGreatDoor.PdSt
set_option linter.unusedSimpArgs false
set_option linter.unusedVariables false
set_option linter.unnecessarySimpa false
open Go Am
set_option maxRecDepth 100000
structure PtAt (h : Heap) (b id ver cap N : Nat) (T : List Cell) (d : Array El) (a : Nat) (g : FuncId) (I J i j : Nat) (st : St) : Prop where
  n : st.n = 0
  row : RwAt h b id ver cap N T d st
  a : st.t 1 = IntV a
  g : st.t 4 = cloV g
  i : st.t I = IntV i
  j : st.t J = IntV j
theorem PtAt.cut {h : Heap} {b id ver cap N : Nat} {T : List Cell} {d : Array El} {a : Nat} {g : FuncId} {I J i j : Nat} {st : St} (hid : id < b) (hT : lowCs 0 T = true) (hlow : ∀ id blk, h id = some blk → ∀ c ∈ blk.cells, lowC b c = true) (C : Ctx) (hC : C.b = b)
    (k : PtAt h b id ver cap N T d a g I J i j st) : PtAt h b id ver cap N T d a g I J i j (st.cut C 0) := by
  obtain ⟨t, hh, n⟩ := st
  obtain ⟨_, ⟨h1, h2, h3, h4⟩, h5, h6, h7, h8⟩ := k
  simp only at h2 h3 h4 h5 h6 h7 h8
  refine ⟨rfl, RwAt.cut hid hT hlow C hC h1 h2 h3 h4, ?_, ?_, ?_, ?_⟩
  · show cutV _ (t 1) = _; rw [h5]; rfl
  · show cutV _ (t 4) = _; rw [h6]; rfl
  · show cutV _ (t I) = _; rw [h7]; rfl
  · show cutV _ (t J) = _; rw [h8]; rfl
theorem part_size (lt : El → El → Bool) (a : Nat) : ∀ (n i j : Nat) (d : Array El), j + 1 - i ≤ n → (Sort.partLoop lt a i j d).2.size = d.size := by
  intro n
  induction n with
  | zero =>
    intro i j d hn
    rw [Sort.partLoop_eq]
    split
    · rfl
    · have := Sort.partLoop_guard lt a i j d (by assumption); omega
  | succ n ih =>
    intro i j d hn
    rw [Sort.partLoop_eq]
    split
    · rfl
    · have := Sort.partLoop_guard lt a i j d (by assumption)
      rw [ih _ _ _ (by omega), swp_size]
theorem partitionEqual_ok {g : FuncId} {z : El → El → Int} (cm : CmpQ g z) {h : Heap} {b id ver cap : Nat} {d0 : Array El} {T : List Cell} (k : PdAt h id ver d0 T) (hid : id < b) (a e p : Nat) (hap : a ≤ p) (hpe : p < e) (he : e ≤ d0.size) :
    ACalls Tryz.prog 165 [winQ id ver cap d0.size, IntV a, IntV e, IntV p, cloV g] h b 0
      (fun r h' => r = IntV (Sort.partitionEqual (ltZ z) d0 a e p).1 ∧ h' = upd h id (rowQ ver (Sort.partitionEqual (ltZ z) d0 a e p).2 T)) := by
  refine ACalls.enter Tryz.func165 rfl (by simp [Tryz.ntmps165]) (fun ι w hn H => ?_)
  have hlow := H.lowCells
  have hz := k.size
  obtain ⟨N, hN⟩ : ∃ N, d0.size = N := ⟨_, rfl⟩
  have hrow := k.row
  have hT := k.low
  rw [hN] at hz he ⊢
  unfold Sort.partitionEqual
  obtain ⟨R, hR⟩ : ∃ R, Sort.partEqLoop (ltZ z) a (a + 1) (e - 1) (Sort.swp d0 a p) = R := ⟨_, rfl⟩
  rw [hR]
  have w1 := w_add1 (a := a) (by omega)
  have w2 := w_sub1 (a := e) (by omega) (by omega)
  obtain ⟨hh, hhh⟩ : ∃ hh, hh = h := ⟨_, rfl⟩
  have hb : hh id = some (rowQ ver d0 T) := by rw [hhh]; exact hrow
  have ho : ∀ x, x < b → x ≠ id → hh x = h x := fun x _ _ => by rw [hhh]
  refine Rk ?_
  rw [show (⟨_, h, 0⟩ : St) = ⟨_, hh, 0⟩ by rw [hhh]]
  clear hhh
  rw [← hN]
  have la : a < d0.size := by omega
  have lb : p < d0.size := by omega
  have la' : ((a : Nat) : Int) < d0.size := by omega
  have lb' : ((p : Nat) : Int) < d0.size := by omega
  have hpa := celQ_get d0 T a la
  have hpb := celQ_get d0 T p lb
  have hs1 := celQ_set d0 T a la d0[p]!
  have hs2 := celQ_set (d0.setIfInBounds a d0[p]!) T p (by rw [Array.size_setIfInBounds]; exact lb) d0[a]!
  rw [show (d0.setIfInBounds a d0[p]!).setIfInBounds p d0[a]! = Sort.swp d0 a p from rfl] at hs2
  have hb' : hh id = some ⟨ver, celQ d0 T⟩ := hb
  have hlL := celQ_len d0 T
  have hlL2 := celQ_len (d0.setIfInBounds a d0[p]!) T
  rw [Array.size_setIfInBounds] at hlL2
  obtain ⟨vx, hvx⟩ : ∃ v, d0[a]! = v := ⟨_, rfl⟩
  obtain ⟨vy, hvy⟩ : ∃ v, d0[p]! = v := ⟨_, rfl⟩
  rw [hvx] at hpa hs2
  rw [hvy] at hpb hs1 hs2 hlL2
  generalize celQ (d0.setIfInBounds a vy) T = L2 at hs1 hs2 hlL2
  generalize celQ d0 T = L1 at hpa hpb hs1 hb' hlL
  refine AWP.seq ?_
  refine AWP.rgD [20, 24] [] [id] mixed (by kernel_rfl) (by kernel_rfl) (fun K hK => ?_) (by kernel_rfl); simp -implicitDefEqProofs only [go_sem, ↓reduceIte, Nat.reduceEqDiff, Nat.reduceAdd, Nat.reduceLT, Nat.reduceLeDiff, reduceCtorEq, Int.toNat_natCast, hb', hpa, hpb, la', lb', hs1, hs2]
  repeat (first | (refine ⟨⟨by omega, by omega⟩, ?_⟩) | (refine ⟨by omega, ?_⟩) | (refine ⟨sub_ers _ _, ?_⟩) | (refine ⟨sub_at _ hb', ?_⟩))
  refine hK _ _ _ ?_; clear hK K
  refine Ev ?_
  refine Rkf (jn2 @w1 @w2) ?_
  have hs : (Sort.swp d0 a p).size = N := by rw [swp_size, hN]
  have hda := hs
  refine AWP.seq ?_
  refine AWP.block ?_
  refine AWP.loopM 0 (fun m st => ∃ i j d, m = j + 1 - i ∧ a < i ∧ j < e ∧ Sort.partEqLoop (ltZ z) a i j d = R ∧ PtAt h b id ver cap N T d a g 11 12 i j st) (e - 1 + 1 - (a + 1)) rfl ⟨a + 1, e - 1, _, rfl, by omega, by omega, hR, ⟨rfl, ⟨hs, by exact Er, fun x hx hne => by refine Evf @hne ?_; exact ho x hx hne, by exact Ecf @hN⟩, by exact Er, by exact Er, by exact Er, by exact Er⟩⟩ ?_
  clear hR hb ho hb' hpa hpb hs1 hs2 hlL hlL2 hvx hvy la lb la' lb' w1 w2 hs hda
  rintro m ⟨t, hh, n⟩ ⟨i, j, d, rfl, hai, hje, hR, hn0, ⟨hs, hb, ho, e0⟩, e1, e4, eI, eJ⟩ hn1
  simp only at hn0 hb ho e0 e1 e4 eI eJ hn1
  subst hn0
  rw [Sort.partEqLoop_eq] at hR
  refine AWP.block ?_
  refine AWP.mid (PtAt h b id ver cap N T d a g 11 12 (Sort.scanUp (fun x => !ltZ z d[a]! x) d j i) (j)) ?_ ?_
  · refine AWP.block ?_
    obtain ⟨sx, hsx⟩ : ∃ sx, Sort.scanUp (fun x => !ltZ z d[a]! x) d j i = sx := ⟨_, rfl⟩
    rw [hsx]
    refine AWP.loopM 0 (fun m st => ∃ x, m = j + 1 - x ∧ a < x ∧ Sort.scanUp (fun x => !ltZ z d[a]! x) d j x = sx ∧ PtAt h b id ver cap N T d a g 11 12 (x) (j) st) (j + 1 - i) rfl ⟨i, rfl, by omega, hsx, ⟨rfl, ⟨hs, hb, ho, by exact Ecf @e0⟩, by exact Ecf @e1, by exact Ecf @e4, by exact Ecf @eI, by exact Ecf @eJ⟩⟩ ?_
    clear hsx hb ho e0 e1 e4 eI eJ hs
    rintro m ⟨t, hh, n⟩ ⟨x, rfl, hax, hsx, hn0, ⟨hs, hb, ho, e0⟩, e1, e4, eI, eJ⟩ hn1
    simp only at hn0 hb ho e0 e1 e4 eI eJ hn1
    subst hn0
    rw [Sort.scanUp] at hsx
    refine AWP.seq ?_
    by_cases hle : x ≤ j
    · have hle' : (x : Int) ≤ (j : Nat) := by omega
      rw [← hs] at e0
      have la : a < d.size := by omega
      have lb : x < d.size := by omega
      have la' : ((a : Nat) : Int) < d.size := by omega
      have lb' : ((x : Nat) : Int) < d.size := by omega
      have hpa := celQ_get d T a la
      have hpb := celQ_get d T x lb
      have hb' : hh id = some ⟨ver, celQ d T⟩ := hb
      have hlL := celQ_len d T
      obtain ⟨vx, hvx⟩ : ∃ v, d[a]! = v := ⟨_, rfl⟩
      obtain ⟨vy, hvy⟩ : ∃ v, d[x]! = v := ⟨_, rfl⟩
      rw [hvx] at hpa
      rw [hvy] at hpb
      generalize celQ d T = L1 at hpa hpb hb' hlL
      refine AWP.seqRegDG [] [] [] mixed (drawF_ok (by kernel_rfl)) (by kernel_rfl) (fun K hK => ?_); simp -implicitDefEqProofs only [go_sem, ↓reduceIte, Nat.reduceEqDiff, Nat.reduceAdd, Nat.reduceLT, Nat.reduceLeDiff, reduceCtorEq, Int.toNat_natCast, e0, e1, e4, eI, eJ, hle', hb', hpa, hpb, la', lb']
      repeat (first | (refine Gdf 34 (jn5 @e0 @e1 @e4 @eI (jn7 @eJ @hle' @hb' @hpa @hpb @la' @lb')) ?_) | (refine ⟨by omega, ?_⟩))
      refine Ud (cm.calls vx vy _ _) cm.body ?_
      by_cases hz1 : z vx vy < 0
      · repeat (first | (refine Gdf 34 @hz1 ?_) | (refine ⟨by omega, ?_⟩))
        rw [if_neg (by show ¬ (decide (x ≤ j) && !ltZ z d[a]! d[x]!) = true; rw [hvx, hvy]; simp [hz1])] at hsx
        refine hK _ _ _ ?_; clear hK K
        refine Bf ?_
        refine AWP.exit ?_
        refine Ev ?_
        subst hsx
        exact ⟨rfl, ⟨hs, hb, ho, by exact Ecf (jn2 @e0 @hs)⟩, by exact Ecf @e1, by exact Ecf @e4, by exact Ecf @eI, by exact Ecf @eJ⟩
      · repeat (first | (refine Gdf 34 @hz1 ?_) | (refine ⟨by omega, ?_⟩))
        rw [if_pos (by show (decide (x ≤ j) && !ltZ z d[a]! d[x]!) = true; rw [hvx, hvy]; simp [hle, hz1])] at hsx
        refine hK _ _ _ ?_; clear hK K
        refine Bt ?_
        refine AWP.skip ?_
        refine Ev ?_
        refine AWP.block ?_
        have w9 := w_add1 (a := x) (by omega)
        refine Raf (jn2 @eI @w9) (fun E K hE hK => ?_); refine hK _ _ _ ?_; clear hE hK K E
        exact ⟨j + 1 - (x + 1), by omega, x + 1, rfl, by omega, hsx, PtAt.cut hid hT hlow _ rfl ⟨rfl, ⟨hs, hb, ho, by exact Ecf (jn2 @e0 @hs)⟩, by exact Ecf @e1, by exact Ecf @e4, by exact Er, by exact Ecf @eJ⟩⟩
    · have hle' : ¬ (x : Int) ≤ (j : Nat) := by omega
      rw [if_neg (by simp [hle])] at hsx
      refine AWP.seqRegDG [] [] [] mixed (drawF_ok (by kernel_rfl)) (by kernel_rfl) (fun K hK => ?_); simp -implicitDefEqProofs only [go_sem, ↓reduceIte, Nat.reduceEqDiff, Nat.reduceAdd, Nat.reduceLT, Nat.reduceLeDiff, reduceCtorEq, Int.toNat_natCast, e0, e1, e4, eI, eJ, hle']
      repeat (first | (refine Gdf 34 @hle' ?_) | (refine ⟨by omega, ?_⟩))
      refine hK _ _ _ ?_; clear hK K
      refine Bf ?_
      refine AWP.exit ?_
      refine Ev ?_
      subst hsx
      exact ⟨rfl, ⟨hs, hb, ho, by exact Ecf @e0⟩, by exact Ecf @e1, by exact Ecf @e4, by exact Ecf @eI, by exact Ecf @eJ⟩
  clear hb ho e0 e1 e4 eI eJ hs
  rintro ⟨t, hh, n⟩ ⟨hn0, ⟨hs, hb, ho, e0⟩, e1, e4, eI, eJ⟩
  simp only at hn0 hb ho e0 e1 e4 eI eJ
  subst hn0
  have hge := Sort.scanUp_ge (fun x => !ltZ z d[a]! x) d j i
  obtain ⟨i2, hi2⟩ : ∃ i2, Sort.scanUp (fun x => !ltZ z d[a]! x) d j i = i2 := ⟨_, rfl⟩
  rw [hi2] at eI hR hge
  clear hi2
  refine AWP.mid (PtAt h b id ver cap N T d a g 11 12 (i2) (Sort.scanDown (fun x => ltZ z d[a]! x) d i2 j)) ?_ ?_
  · refine AWP.block ?_
    obtain ⟨sx, hsx⟩ : ∃ sx, Sort.scanDown (fun x => ltZ z d[a]! x) d i2 j = sx := ⟨_, rfl⟩
    rw [hsx]
    refine AWP.loopM 0 (fun x st => x ≤ j ∧ Sort.scanDown (fun x => ltZ z d[a]! x) d i2 x = sx ∧ PtAt h b id ver cap N T d a g 11 12 (i2) (x) st) (j) rfl ⟨Nat.le_refl _, hsx, ⟨rfl, ⟨hs, hb, ho, by exact Ecf @e0⟩, by exact Ecf @e1, by exact Ecf @e4, by exact Ecf @eI, by exact Ecf @eJ⟩⟩ ?_
    clear hsx hb ho e0 e1 e4 eI eJ hs
    rintro x ⟨t, hh, n⟩ ⟨hxj, hsx, hn0, ⟨hs, hb, ho, e0⟩, e1, e4, eI, eJ⟩ hn1
    simp only at hn0 hb ho e0 e1 e4 eI eJ hn1
    subst hn0
    refine AWP.seq ?_
    by_cases hle : i2 ≤ x
    · have hle' : ((i2 : Nat) : Int) ≤ (x : Int) := by omega
      rw [← hs] at e0
      have hsx1 : (if (decide (i2 ≤ x) && (fun x => ltZ z d[a]! x) d[x]!) = true then Sort.scanDown (fun x => ltZ z d[a]! x) d i2 (x - 1) else x) = sx := by
        cases x with
        | zero => omega
        | succ y => exact hsx
      replace hsx := hsx1
      clear hsx1
      have la : a < d.size := by omega
      have lb : x < d.size := by omega
      have la' : ((a : Nat) : Int) < d.size := by omega
      have lb' : ((x : Nat) : Int) < d.size := by omega
      have hpa := celQ_get d T a la
      have hpb := celQ_get d T x lb
      have hb' : hh id = some ⟨ver, celQ d T⟩ := hb
      have hlL := celQ_len d T
      obtain ⟨vx, hvx⟩ : ∃ v, d[a]! = v := ⟨_, rfl⟩
      obtain ⟨vy, hvy⟩ : ∃ v, d[x]! = v := ⟨_, rfl⟩
      rw [hvx] at hpa
      rw [hvy] at hpb
      generalize celQ d T = L1 at hpa hpb hb' hlL
      refine AWP.seqRegDG [] [] [] mixed (drawF_ok (by kernel_rfl)) (by kernel_rfl) (fun K hK => ?_); simp -implicitDefEqProofs only [go_sem, ↓reduceIte, Nat.reduceEqDiff, Nat.reduceAdd, Nat.reduceLT, Nat.reduceLeDiff, reduceCtorEq, Int.toNat_natCast, e0, e1, e4, eI, eJ, hle', hb', hpa, hpb, la', lb']
      repeat (first | (refine Gdf 53 (jn5 @e0 @e1 @e4 @eI (jn7 @eJ @hle' @hb' @hpa @hpb @la' @lb')) ?_) | (refine ⟨by omega, ?_⟩))
      refine Ud (cm.calls vx vy _ _) cm.body ?_
      by_cases hz1 : z vx vy < 0
      · repeat (first | (refine Gdf 53 @hz1 ?_) | (refine ⟨by omega, ?_⟩))
        rw [if_pos (by show (decide (i2 ≤ x) && ltZ z d[a]! d[x]!) = true; rw [hvx, hvy]; simp [hle, hz1])] at hsx
        refine hK _ _ _ ?_; clear hK K
        refine Bt ?_
        refine AWP.skip ?_
        refine Ev ?_
        refine AWP.block ?_
        have w9 := w_sub1 (a := x) (by omega) (by omega)
        refine Raf (jn2 @eJ @w9) (fun E K hE hK => ?_); refine hK _ _ _ ?_; clear hE hK K E
        exact ⟨x - 1, by omega, by omega, hsx, PtAt.cut hid hT hlow _ rfl ⟨rfl, ⟨hs, hb, ho, by exact Ecf (jn2 @e0 @hs)⟩, by exact Ecf @e1, by exact Ecf @e4, by exact Ecf @eI, by exact Er⟩⟩
      · repeat (first | (refine Gdf 53 @hz1 ?_) | (refine ⟨by omega, ?_⟩))
        rw [if_neg (by show ¬ (decide (i2 ≤ x) && ltZ z d[a]! d[x]!) = true; rw [hvx, hvy]; simp [hz1])] at hsx
        refine hK _ _ _ ?_; clear hK K
        refine Bf ?_
        refine AWP.exit ?_
        refine Ev ?_
        subst hsx
        exact ⟨rfl, ⟨hs, hb, ho, by exact Ecf (jn2 @e0 @hs)⟩, by exact Ecf @e1, by exact Ecf @e4, by exact Ecf @eI, by exact Ecf @eJ⟩
    · have hle' : ¬ ((i2 : Nat) : Int) ≤ (x : Int) := by omega
      have hsx1 : x = sx := by
        cases x with
        | zero => exact hsx
        | succ y => rw [Sort.scanDown, if_neg (by simp; omega)] at hsx; exact hsx
      replace hsx := hsx1
      clear hsx1
      refine AWP.seqRegDG [] [] [] mixed (drawF_ok (by kernel_rfl)) (by kernel_rfl) (fun K hK => ?_); simp -implicitDefEqProofs only [go_sem, ↓reduceIte, Nat.reduceEqDiff, Nat.reduceAdd, Nat.reduceLT, Nat.reduceLeDiff, reduceCtorEq, Int.toNat_natCast, e0, e1, e4, eI, eJ, hle']
      repeat (first | (refine Gdf 53 @hle' ?_) | (refine ⟨by omega, ?_⟩))
      refine hK _ _ _ ?_; clear hK K
      refine Bf ?_
      refine AWP.exit ?_
      refine Ev ?_
      subst hsx
      exact ⟨rfl, ⟨hs, hb, ho, by exact Ecf @e0⟩, by exact Ecf @e1, by exact Ecf @e4, by exact Ecf @eI, by exact Ecf @eJ⟩
  clear hb ho e0 e1 e4 eI eJ hs
  rintro ⟨t, hh, n⟩ ⟨hn0, ⟨hs, hb, ho, e0⟩, e1, e4, eI, eJ⟩
  simp only at hn0 hb ho e0 e1 e4 eI eJ
  subst hn0
  have hle := Sort.scanDown_le (fun x => ltZ z d[a]! x) d i2 j
  obtain ⟨j2, hj2⟩ : ∃ j2, Sort.scanDown (fun x => ltZ z d[a]! x) d i2 j = j2 := ⟨_, rfl⟩
  rw [hj2] at eJ hR hle
  clear hj2
  refine AWP.seq ?_
  by_cases hgt : i2 > j2
  · have hgt' : ((j2 : Nat) : Int) < (i2 : Int) := by omega
    rw [if_pos hgt] at hR
    refine Rkf (jn3 @eI @eJ @hgt') ?_
    refine Bt ?_
    refine AWP.exit ?_
    refine Ev ?_
    subst hR
    refine Rkf @eI ?_
    refine AWP.ret ?_
    refine Ev ?_
    exact RwAt.ends (C := ⟨_, b, ι, h, w, x0⟩) hid hT hn H hb ho (r := IntV i2) (by rw [show Tryz.f165.results.toList = [.tmp 10] from rfl]; exact Er) (.v _) ⟨rfl, rfl⟩
  · have hgt' : ¬ ((j2 : Nat) : Int) < (i2 : Int) := by omega
    rw [if_neg hgt] at hR
    refine Rkf (jn3 @eI @eJ @hgt') ?_
    refine Bs ?_
    have w1 := w_add1 (a := i2) (by omega)
    have w2 := w_sub1 (a := j2) (by omega) (by omega)
    rw [← hs] at e0
    have la : i2 < d.size := by omega
    have lb : j2 < d.size := by omega
    have la' : ((i2 : Nat) : Int) < d.size := by omega
    have lb' : ((j2 : Nat) : Int) < d.size := by omega
    have hpa := celQ_get d T i2 la
    have hpb := celQ_get d T j2 lb
    have hs1 := celQ_set d T i2 la d[j2]!
    have hs2 := celQ_set (d.setIfInBounds i2 d[j2]!) T j2 (by rw [Array.size_setIfInBounds]; exact lb) d[i2]!
    rw [show (d.setIfInBounds i2 d[j2]!).setIfInBounds j2 d[i2]! = Sort.swp d i2 j2 from rfl] at hs2
    have hb' : hh id = some ⟨ver, celQ d T⟩ := hb
    have hlL := celQ_len d T
    have hlL2 := celQ_len (d.setIfInBounds i2 d[j2]!) T
    rw [Array.size_setIfInBounds] at hlL2
    obtain ⟨vx, hvx⟩ : ∃ v, d[i2]! = v := ⟨_, rfl⟩
    obtain ⟨vy, hvy⟩ : ∃ v, d[j2]! = v := ⟨_, rfl⟩
    rw [hvx] at hpa hs2
    rw [hvy] at hpb hs1 hs2 hlL2
    generalize celQ (d.setIfInBounds i2 vy) T = L2 at hs1 hs2 hlL2
    generalize celQ d T = L1 at hpa hpb hs1 hb' hlL
    refine AWP.seq ?_
    refine AWP.rgD [78, 82] [] [id] mixed (by kernel_rfl) (by kernel_rfl) (fun K hK => ?_) (by kernel_rfl); simp -implicitDefEqProofs only [go_sem, ↓reduceIte, Nat.reduceEqDiff, Nat.reduceAdd, Nat.reduceLT, Nat.reduceLeDiff, reduceCtorEq, Int.toNat_natCast, e0, eI, eJ, hb', hpa, hpb, la', lb', hs1, hs2]
    repeat (first | (refine ⟨⟨by omega, by omega⟩, ?_⟩) | (refine ⟨by omega, ?_⟩) | (refine ⟨sub_ers _ _, ?_⟩) | (refine ⟨sub_at _ hb', ?_⟩))
    refine hK _ _ _ ?_; clear hK K
    refine Ev ?_
    refine Rkf (jn2 @eI @w1) ?_
    refine Raf (jn2 @eJ @w2) (fun E K hE hK => ?_); refine hK _ _ _ ?_; clear hE hK K E
    refine ⟨j2 - 1 + 1 - (i2 + 1), by omega, i2 + 1, j2 - 1, _, rfl, by omega, by omega, hR, PtAt.cut hid hT hlow _ rfl ⟨rfl, ⟨by rw [swp_size, hs], by exact Er, fun x hx hne => by refine Evf @hne ?_; exact ho x hx hne, by exact Ecf (jn2 @e0 @hs)⟩, by exact Ecf @e1, by exact Ecf @e4, by exact Er, by exact Er⟩⟩
end Go.Proofs.YtihgnpboabpchaaGreatDoor.PdSt
