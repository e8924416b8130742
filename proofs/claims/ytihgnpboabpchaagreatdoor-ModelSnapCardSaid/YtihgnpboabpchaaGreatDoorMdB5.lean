/-
  Part 5 of the proof of modelSnap_card: steps of the machine, walks and plain laws; each holds under the conditions that it states.
-/
import Derived.Test.YtihgnpboabpchaaGreatDoorMdB4
import Derived.Test.YtihgnpboabpchaaGreatDoorMdB3
import Derived.Test.YtihgnpboabpchaaGreatDoorMdB1

namespace Go.Proofs.YtihgnpboabpchaaGreatDoor
set_option linter.unusedSimpArgs false
set_option linter.unusedVariables false
set_option linter.unnecessarySimpa false
open Go Am
set_option maxRecDepth 100000
theorem Ends.GB {C : Ctx} {fn : Func} {s : St} {b G R : Nat} {g : Gs} {e : Int} (hb : C.b = b) (H : HeapOK C.ι C.h C.b C.w) (hG : G < b) (hR : R < b) (hg : GB s.h G R g) (ho : ∀ id, id < b → id ≠ G → id ≠ R → s.h id = C.h id)
    (hr : resA Tryz.prog s.h s.t fn.results.toList = some (IntV e)) : Am.Ends Tryz.prog C fn 0 (fun r h' => r = IntV e ∧ GB h' G R g ∧ ∀ id, id < b → id ≠ G → id ≠ R → h' id = C.h id) s := by
  subst hb
  have hlo : ∀ id, id < C.b → lowH C.b s.h id = s.h id := fun id hid => by unfold lowH; rw [if_pos hid]
  obtain ⟨ver, cap, g1, T', z1, z2, z3⟩ := hg
  refine Ends.low hr (.v _) (fun id hid blk eb c hc => ?_) ⟨rfl, ⟨ver, cap, by rw [hlo G hG]; exact g1, T', by rw [hlo R hR]; exact z1, z2, z3⟩, fun id hid n1 n2 => by rw [hlo id hid]; exact ho id hid n1 n2⟩
  by_cases e1 : id = G
  · subst e1; rw [g1] at eb; injection eb with eb; subst eb
    exact lowCs_mem (by simp [lowCs, lowC, hR]) c hc
  · by_cases e2 : id = R
    · subst e2
      rw [z1] at eb; injection eb with eb; subst eb
      exact lowCs_mem (lowCs_app (lowCs_p _ _) (lowCs_mono (Nat.zero_le _) z3)) c hc
    · rw [ho id hid e1 e2] at eb
      exact H.lowCells id blk eb c hc
theorem mwroteO_ok (l ns : List S) (hr : Ris nmS l) (hc : ∀ x ∈ l, okF x) (hns : ∀ x ∈ ns, okF x) (hl : l.length + ns.length < 256) (h : Heap) (b X ver off N n : Nat) (cs : List Cell) (hX : X < b) (hXN : ¬ X = N) (hb : h X = some ⟨ver, cs⟩) (hc5 : cs[off + 5]? = some (.p (.sl 1 (l.map encS)))) (hlow : lowCs b cs = true)
    (hN : h N = some ⟨0, (ns.map encS).flatten.map .p⟩) (hn : n = ns.length) :
    ACalls Tryz.prog 187 [.one (.ptr X ver off), .one (.win N 0 0 n n)] h b 0 (fun r h' => r = IntV 0 ∧ h' = upd (delP h (fun i => decide (i = N))) X ⟨ver, List.take (off + 5) cs ++ .p (.sl 1 ((ns.foldl insN l).map encS)) :: List.drop (off + 5 + 1) cs⟩) :=
  (mwrote_ok l ns hr hc hns hl (delP h (fun i => decide (i = N))) b X ver off cs hX (by unfold delP; rw [if_neg (by simpa using hXN)]; exact hb) hc5 hlow).seal _ (.cons (.same _) (.cons (.one (view_ns ns (by simp) hN n hn)) .nil))
theorem mreadO_ok (l ns : List S) (hr : Ris nmS l) (hc : ∀ x ∈ l, okF x) (hns : ∀ x ∈ ns, okF x) (hl : l.length + ns.length < 1024) (h : Heap) (b X ver off N n : Nat) (cs : List Cell) (hX : X < b) (hXN : ¬ X = N) (hb : h X = some ⟨ver, cs⟩) (hc6 : cs[off + 6]? = some (.p (.sl 1 (l.map encS)))) (hlow : lowCs b cs = true)
    (hN : h N = some ⟨0, (ns.map encS).flatten.map .p⟩) (hn : n = ns.length) :
    ACalls Tryz.prog 189 [.one (.ptr X ver off), .one (.win N 0 0 n n)] h b 0 (fun r h' => r = IntV 0 ∧ h' = upd (delP h (fun i => decide (i = N))) X ⟨ver, List.take (off + 6) cs ++ .p (.sl 1 ((ns.foldl insN l).map encS)) :: List.drop (off + 6 + 1) cs⟩) :=
  (mread_ok l ns hr hc hns hl (delP h (fun i => decide (i = N))) b X ver off cs hX (by unfold delP; rw [if_neg (by simpa using hXN)]; exact hb) hc6 hlow).seal _ (.cons (.same _) (.cons (.one (view_ns ns (by simp) hN n hn)) .nil))
structure GPre (g : Gs) : Prop where
  ris : Ris nmK g.now.l
  size : sizeV g.now.l
  chk : ∀ x ∈ g.now.l, chkN x.name = 0
  wris : Ris nmS g.writes
  wok : ∀ x ∈ g.writes, okF x
  wlen : g.writes.length + 2 < 256
  nris : Ris nmS g.names
  nok : ∀ x ∈ g.names, okF x
  nlen : g.names.length + 2 < 1024
theorem delP_at {h : Heap} {id N : Nat} (e : ¬ id = N) : delP h (fun i => decide (i = N)) id = h id := by unfold delP; rw [if_neg (by simpa using e)]
theorem RowAt.of_eq {h h' : Heap} {id ver cap sz : Nat} {es : List (List PD)} (r : RowAt h id ver cap sz es) (e : h' id = h id) : RowAt h' id ver cap sz es := by
  obtain ⟨T, h1, h2, h3⟩ := r
  exact ⟨T, e.trans h1, h2, h3⟩
theorem sub_gr {h h2 : Heap} {b G R : Nat} (hn : ∀ id, b ≤ id → h id = none) (ho : ∀ id, id < b → id ≠ G → id ≠ R → h2 id = h id) {c c2 : List Cell} (h1 : h G = some ⟨0, c⟩) (h2' : h2 G = some ⟨0, c2⟩) : Am.Sub (ers (delH h R) G) h2 := by
  intro id blk e
  rw [ers_lit] at e
  by_cases e1 : id = G
  · subst e1
    rw [if_pos rfl] at e
    by_cases e2 : id = R
    · subst e2; rw [delH_same] at e; cases e
    · rw [delH_ne _ _ _ e2, h1] at e
      injection e with e; subst e
      exact ⟨_, h2', rfl, .inl rfl⟩
  · rw [if_neg e1] at e
    by_cases e2 : id = R
    · subst e2; rw [delH_same] at e; cases e
    · rw [delH_ne _ _ _ e2] at e
      rcases Nat.lt_or_ge id b with h3 | h3
      · exact ⟨blk, by rw [ho id h3 e1 e2]; exact e, rfl, .inr rfl⟩
      · rw [hn id h3] at e; cases e
theorem gB_low {g : Gs} {R ver cap b : Nat} (h : R < b) : lowCs b (gB g R ver cap) = true := by simp [lowCs, lowC, h]
theorem putC_ok (a : Ac) (k : Kn) (g : Gs) (p : GPre g) (ha : chkN a.p = 0) (h0 : Heap) (b0 A Kb : Nat) (hA : A < b0) (hK : Kb < b0) (hA1 : h0 A = some ⟨0, (encA a).map .p⟩) (hK1 : h0 Kb = some ⟨0, (encK k).map .p⟩) :
    ClOK 185 [.ptr A 0 0, .ptr Kb 0 0] g { g with now := setV g.now a.p (some k), writes := insN g.writes a.p } 0 b0 h0 := by
  intro h b G R hh hG0 hR0 hG hR hGR hgb
  obtain ⟨ver, cap, g1, hrow⟩ := hgb
  refine ACalls.enter Tryz.func185 rfl (by simp [Tryz.ntmps185]) (fun ι w hn H => ?_)
  have hA2 : h A = some ⟨0, (encA a).map .p⟩ := by rw [hh A hA]; exact hA1
  have hK2 : h Kb = some ⟨0, (encK k).map .p⟩ := by rw [hh Kb hK]; exact hK1
  have nAG : ¬ A = G := by omega
  have nAR : ¬ A = R := by omega
  have nRG : ¬ R = G := fun e => hGR e.symm
  refine Rk ?_
  refine AWP.seqRegS [] [] (ers (delH h R) G) ((sub_ers _ _).trans (sub_delH _ _)) mixed (by kernel_rfl) (by kernel_rfl) (fun K hK => ?_) (by kernel_rfl); simp -implicitDefEqProofs only [go_sem, ↓reduceIte, Nat.reduceEqDiff, Nat.reduceAdd, Nat.reduceLT, Nat.reduceLeDiff, reduceCtorEq, Int.toNat_natCast, hA2, g1, encA, gB, nAG, nAR, hGR, nRG, delH]
  refine CallD.use (mset_ok g.now.l a.p (some k) p.ris p.size p.chk (.inr ha) h _ G R ver cap 3 (gB g R ver cap) (.one (.ptr Kb 0 0)) (show G < b + 0 by omega) (show R < b + 0 by omega) hGR g1 rfl (gB_low (show R < b + 0 by omega)) hrow ⟨Kb, rfl, show Kb < b + 0 by omega, hK2⟩ (fun K' e => by injection e with e; injection e with e; subst e; exact ⟨by omega, by omega⟩)) body_186 ?_
  rintro _ h2 ⟨rfl, ver2, cap2, hrow2, hg2, ho2⟩
  refine ⟨sub_gr (b := b) hn ho2 g1 hg2, ?_⟩
  refine Ev ?_
  refine hK _ _ _ ?_; clear hK K
  have hg2' : h2 G = some ⟨0, gB { g with now := setV g.now a.p (some k) } R ver2 cap2⟩ := hg2
  have ho3 : ∀ id, id < b → id ≠ G → id ≠ R → h2 id = h id := ho2
  have hA3 : h2 A = some ⟨0, (encA a).map .p⟩ := by rw [ho3 A (by omega) nAG nAR]; exact hA2
  have nGb : ¬ G = b := by omega
  have nRb : ¬ R = b := by omega
  have nAb : ¬ A = b := by omega
  clear hg2 ho2
  refine AWP.seqReg (by kernel_rfl) (fun E K hE hK => ?_); simp -implicitDefEqProofs only [go_sem, ↓reduceIte, Nat.reduceEqDiff, Nat.reduceAdd, Nat.reduceLT, Nat.reduceLeDiff, reduceCtorEq, Int.toNat_natCast, hA3, encA]
  refine CallR.use (mwroteO_ok g.writes [a.p] p.wris p.wok (fun x hx => by rw [List.mem_singleton.1 hx]; exact .inr ha) (by have := p.wlen; simp; omega) _ _ G 0 0 b 1 (gB { g with now := setV g.now a.p (some k) } R ver2 cap2) (show G < b + 1 by omega) nGb (by rw [upd_ne _ _ _ _ nGb]; exact hg2') rfl (gB_low (show R < b + 1 by omega)) (upd_same _ _ _) rfl) body_187 ?_
  rintro _ _ ⟨rfl, rfl⟩
  refine Ev ?_
  refine hK _ _ _ ?_; clear hE hK K E
  refine AWP.ret ?_
  refine Ends.GB rfl H hG hR ⟨ver2, cap2, upd_same _ _ _, ?_⟩ (fun id hid a1 a2 => ?_) (by rw [show Tryz.f185.results.toList = [.tmp 4] from rfl]; exact Er)
  · exact hrow2.of_eq ((upd_ne _ _ _ _ nRG).trans ((delP_at nRb).trans (upd_ne _ _ _ _ nRb)))
  · exact (upd_ne _ _ _ _ a1).trans ((delP_at (Nat.ne_of_lt hid)).trans ((upd_ne _ _ _ _ (Nat.ne_of_lt hid)).trans (ho3 id hid a1 a2)))
theorem sub_lo {h h2 : Heap} {b : Nat} (hn : ∀ id, b ≤ id → h id = none) (ho : ∀ id, id < b → h2 id = h id) : Am.Sub h h2 := fun id blk e => by
  rcases Nat.lt_or_ge id b with h3 | h3
  · exact ⟨blk, (ho id h3).trans e, rfl, .inr rfl⟩
  · rw [hn id h3] at e; cases e
def clI (h : Heap) (b G R A : Nat) (a : Ac) (g : Gs) (st : St) : Prop :=
  GB st.h G R g ∧ st.h A = some ⟨0, (encA a).map .p⟩ ∧ (∀ id, id < b → id ≠ G → id ≠ R → st.h id = h id) ∧ st.t 0 = .one (.ptr G 0 0) ∧ st.t 1 = .one (.ptr A 0 0)
theorem delC_ok (a : Ac) (g : Gs) (p : GPre g) (ha : chkN a.p = 0) (h0 : Heap) (b0 A : Nat) (hA : A < b0) (hA1 : h0 A = some ⟨0, (encA a).map .p⟩) :
    ClOK 188 [.ptr A 0 0] g (delG g a).1 (delG g a).2.e b0 h0 := by
  intro h b G R hh hG0 hR0 hG hR hGR hgb
  obtain ⟨ver, cap, g1, hrow⟩ := hgb
  refine ACalls.enter Tryz.func188 rfl (by simp [Tryz.ntmps188]) (fun ι w hn H => ?_)
  have hA2 : h A = some ⟨0, (encA a).map .p⟩ := by rw [hh A hA]; exact hA1
  have nAG : ¬ A = G := by omega
  have nAR : ¬ A = R := by omega
  have nRG : ¬ R = G := fun e => hGR e.symm
  have nGb : ¬ G = b := by omega
  have nRb : ¬ R = b := by omega
  have nAb : ¬ A = b := by omega
  have hbad : ¬ chkN a.p ≠ 0 := by simpa using ha
  refine Rk ?_
  refine AWP.seq ?_
  refine AWP.seqReg (by kernel_rfl) (fun E K hE hK => ?_); simp -implicitDefEqProofs only [go_sem, ↓reduceIte, Nat.reduceEqDiff, Nat.reduceAdd, Nat.reduceLT, Nat.reduceLeDiff, reduceCtorEq, Int.toNat_natCast, hA2, encA]
  refine CallR.use (mreadO_ok g.names [a.p] p.nris p.nok (fun x hx => by rw [List.mem_singleton.1 hx]; exact .inr ha) (by have := p.nlen; simp; omega) _ _ G 0 0 b 1 (gB g R ver cap) (show G < b + 1 by omega) nGb (by rw [upd_ne _ _ _ _ nGb]; exact g1) rfl (gB_low (show R < b + 1 by omega)) (upd_same _ _ _) rfl) body_189 ?_
  rintro _ _ ⟨rfl, rfl⟩
  refine Ev ?_
  refine hK _ _ _ ?_; clear hE hK K E
  refine Rk ?_
  refine Bs ?_
  refine AWP.seq ?_
  refine Am.AWP.genT (fun st => st.n = 1 ∧ clI h b G R A a { g with names := insN g.names a.p } st) ⟨rfl, ⟨ver, cap, upd_same _ _ _, hrow.of_eq ((upd_ne _ _ _ _ nRG).trans ((delP_at nRb).trans (upd_ne _ _ _ _ nRb)))⟩, (upd_ne _ _ _ _ nAG).trans ((delP_at nAb).trans ((upd_ne _ _ _ _ nAb).trans hA2)), fun id hid a1 a2 => (upd_ne _ _ _ _ a1).trans ((delP_at (Nat.ne_of_lt hid)).trans (upd_ne _ _ _ _ (Nat.ne_of_lt hid))), by exact Er, by exact Er⟩ ?_
  clear g1 hrow
  rintro ⟨t, h1, n⟩ ⟨hn1, ⟨ver1, cap1, g1, hrow⟩, hA3, ho, e0, e1⟩
  simp only at hn1 g1 hrow hA3 ho e0 e1
  subst hn1
  refine AWP.known (fun hnew => ?_)
  have hRG : ¬ G = R := hGR
  cases hg : getV g.now a.p with
  | none =>
    have hd : delG g a = ({ g with names := insN g.names a.p }, errR 4) := by unfold delG; rw [if_neg hbad, hg]
    rw [hd]
    refine AWP.seqRegS [20] [] (h1) (Sub.refl _) mixed (by kernel_rfl) (by kernel_rfl) (fun K hK => ?_) (by kernel_rfl); simp -implicitDefEqProofs only [go_sem, ↓reduceIte, Nat.reduceEqDiff, Nat.reduceAdd, Nat.reduceLT, Nat.reduceLeDiff, reduceCtorEq, Int.toNat_natCast, e0, e1, g1, hA3, encA, gB, nAG]
    refine CallD.use (mgetO_ok g.now a.p p.ris p.size p.chk (.inr ha) h1 _ (show R < b + 1 by omega) hrow) body_190 ?_
    rintro r2 h2 ⟨ho2, hr2⟩
    rw [hg] at hr2
    subst hr2
    refine ⟨sub_lo hnew ho2, ?_⟩
    refine Ev ?_
    refine dU_bin (v := BoolV true) (by exact Er) (sub_lo hnew ho2) ?_
    refine Ev ?_
    refine hK _ _ _ ?_; clear hK K
    refine Bt ?_
    refine Rk ?_
    refine AWP.ret ?_
    refine Ev ?_
    have ho3 : ∀ id, id < b + 1 → h2 id = h1 id := ho2
    exact Ends.GB rfl H hG hR ⟨ver1, cap1, (ho3 G (by omega)).trans g1, hrow.of_eq (ho3 R (by omega))⟩ (fun id hid a1 a2 => (ho3 id (Nat.lt_succ_of_lt hid)).trans (ho id hid a1 a2)) (by rw [show Tryz.f188.results.toList = [.tmp 3] from rfl]; exact Er)
  | some k =>
    have hd : delG g a = ({ g with names := insN g.names a.p, now := setV g.now a.p none, writes := insN g.writes a.p }, zR) := by unfold delG; rw [if_neg hbad, hg]
    rw [hd]
    refine AWP.seqRegS [20] [] (h1) (Sub.refl _) mixed (by kernel_rfl) (by kernel_rfl) (fun K hK => ?_) (by kernel_rfl); simp -implicitDefEqProofs only [go_sem, ↓reduceIte, Nat.reduceEqDiff, Nat.reduceAdd, Nat.reduceLT, Nat.reduceLeDiff, reduceCtorEq, Int.toNat_natCast, e0, e1, g1, hA3, encA, gB, nAG]
    refine CallD.use (mgetO_ok g.now a.p p.ris p.size p.chk (.inr ha) h1 _ (show R < b + 1 by omega) hrow) body_190 ?_
    rintro r2 h2 ⟨ho2, hr2⟩
    rw [hg] at hr2
    obtain ⟨rfl, hb2⟩ := hr2
    refine ⟨sub_lo hnew ho2, ?_⟩
    have hb2' : h2 (b + 1) = some ⟨0, (encK k).map .p⟩ := hb2
    simp -implicitDefEqProofs only [go_sem, ↓reduceIte, Nat.reduceEqDiff, Nat.reduceAdd, Nat.reduceLT, Nat.reduceLeDiff, reduceCtorEq, Int.toNat_natCast, hb2', encK]
    refine dU_bin (v := BoolV false) (by (first | (simp -implicitDefEqProofs only [go_sem, ↓reduceIte, Nat.reduceEqDiff, Nat.reduceAdd, Nat.reduceLT, Nat.reduceLeDiff, reduceCtorEq, Int.toNat_natCast, hb2', encK]; first | done | rfl) | rfl)) (sub_lo hnew ho2) ?_
    refine Ev ?_
    refine hK _ _ _ ?_; clear hK K
    refine Bs ?_
    have ho3 : ∀ id, id < b + 1 → h2 id = h1 id := ho2
    refine Am.AWP.genT (fun st => st.n = 2 ∧ clI h b G R A a { g with names := insN g.names a.p } st) ⟨rfl, ⟨ver1, cap1, (ho3 G (by omega)).trans g1, hrow.of_eq (ho3 R (by omega))⟩, (ho3 A (by omega)).trans hA3, fun id hid a1 a2 => (ho3 id (Nat.lt_succ_of_lt hid)).trans (ho id hid a1 a2), by exact Erf @e0, by exact Erf @e1⟩ ?_
    clear g1 hrow hA3 ho e0 e1 hnew ho2 ho3 hb2 hb2' h1 h2 t
    rintro ⟨t, h1, n⟩ ⟨hn1, ⟨ver1, cap1, g1, hrow⟩, hA3, ho, e0, e1⟩
    simp only at hn1 g1 hrow hA3 ho e0 e1
    subst hn1
    refine AWP.known (fun hnew => ?_)
    refine AWP.seqRegS [] [] (ers (delH h1 R) G) ((sub_ers _ _).trans (sub_delH _ _)) mixed (by kernel_rfl) (by kernel_rfl) (fun K hK => ?_) (by kernel_rfl); simp -implicitDefEqProofs only [go_sem, ↓reduceIte, Nat.reduceEqDiff, Nat.reduceAdd, Nat.reduceLT, Nat.reduceLeDiff, reduceCtorEq, Int.toNat_natCast, e0, e1, hA3, g1, encA, gB, nAG, nAR, hGR, nRG, delH]
    refine CallD.use (mset_ok g.now.l a.p none p.ris p.size p.chk (.inr ha) h1 _ G R ver1 cap1 3 (gB { g with names := insN g.names a.p } R ver1 cap1) (.one (.p (.v (.pointer none)))) (show G < b + 2 by omega) (show R < b + 2 by omega) hGR g1 rfl (gB_low (show R < b + 2 by omega)) hrow rfl (fun K' e => by injection e with e; cases e)) body_186 ?_
    rintro _ h2 ⟨rfl, ver2, cap2, hrow2, hg2, ho2⟩
    refine ⟨sub_gr (b := b + 2) hnew ho2 g1 hg2, ?_⟩
    refine Ev ?_
    refine hK _ _ _ ?_; clear hK K
    have hg2' : h2 G = some ⟨0, gB { g with names := insN g.names a.p, now := setV g.now a.p none } R ver2 cap2⟩ := hg2
    have ho3 : ∀ id, id < b + 2 → id ≠ G → id ≠ R → h2 id = h1 id := ho2
    have hA4 : h2 A = some ⟨0, (encA a).map .p⟩ := by rw [ho3 A (by omega) nAG nAR]; exact hA3
    have nG2 : ¬ G = b + 2 := by omega
    have nR2 : ¬ R = b + 2 := by omega
    clear hg2 ho2
    refine AWP.seqReg (by kernel_rfl) (fun E K hE hK => ?_); simp -implicitDefEqProofs only [go_sem, ↓reduceIte, Nat.reduceEqDiff, Nat.reduceAdd, Nat.reduceLT, Nat.reduceLeDiff, reduceCtorEq, Int.toNat_natCast, e0, e1, hA4, encA]
    refine CallR.use (mwroteO_ok g.writes [a.p] p.wris p.wok (fun x hx => by rw [List.mem_singleton.1 hx]; exact .inr ha) (by have := p.wlen; simp; omega) _ _ G 0 0 (b + 2) 1 (gB { g with names := insN g.names a.p, now := setV g.now a.p none } R ver2 cap2) (show G < b + 3 by omega) nG2 (by rw [upd_ne _ _ _ _ nG2]; exact hg2') rfl (gB_low (show R < b + 3 by omega)) (upd_same _ _ _) rfl) body_187 ?_
    rintro _ _ ⟨rfl, rfl⟩
    refine Ev ?_
    refine hK _ _ _ ?_; clear hE hK K E
    refine AWP.ret ?_
    refine Ends.GB rfl H hG hR ⟨ver2, cap2, upd_same _ _ _, ?_⟩ (fun id hid a1 a2 => ?_) (by rw [show Tryz.f188.results.toList = [.tmp 3] from rfl]; exact Er)
    · exact hrow2.of_eq ((upd_ne _ _ _ _ nRG).trans ((delP_at nR2).trans (upd_ne _ _ _ _ nR2)))
    · have hid' : id < b := hid
      exact (upd_ne _ _ _ _ a1).trans ((delP_at (show ¬ id = b + 2 by omega)).trans ((upd_ne _ _ _ _ (show ¬ id = b + 2 by omega)).trans ((ho3 id (by omega) a1 a2).trans (ho id hid a1 a2))))
end Go.Proofs.YtihgnpboabpchaaGreatDoor
namespace Go.Proofs.YtihgnpboabpchaaGreatDoor
set_option linter.unusedSimpArgs false
set_option linter.unusedVariables false
set_option linter.unnecessarySimpa false
open Go Am
set_option maxRecDepth 100000
theorem set_size {l : List Kn} {p : S} {k : Option Kn} (h : sizeV l) (hl : l.length < 1000000) (hk : ∀ x, k = some x → x.data.length ≤ 1000000) : sizeV (setK nmK p k l) := by
  refine ⟨by have := set_len (nm := nmK) (p := p) (k := k) (l := l); omega, fun x hx => ?_⟩
  rcases set_mem.1 hx with e | e
  · exact hk x e
  · exact h.2 x e.1
theorem set_chk {l : List Kn} {p : S} {k : Option Kn} (h : ∀ x ∈ l, chkN x.name = 0) (hk : ∀ x, k = some x → chkN x.name = 0) : ∀ x ∈ setK nmK p k l, chkN x.name = 0 := fun x hx => by
  rcases set_mem.1 hx with e | e
  · exact hk x e
  · exact h x e.1
def mvI (h : Heap) (b G R A : Nat) (a : Ac) (g : Gs) (k : Kn) (st : St) : Prop :=
  clI h b G R A a g st ∧ st.h (b + 1) = some ⟨0, (encK k).map .p⟩ ∧ st.t 5 = .one (.ptr (b + 1) 0 0)
set_option maxHeartbeats 1000000 in
theorem movC_ok (a : Ac) (g : Gs) (p : GPre g) (hl : g.now.l.length < 1000000) (ha : chkN a.p = 0) (hq : chkN a.q = 0) (h0 : Heap) (b0 A : Nat) (hA : A < b0) (hA1 : h0 A = some ⟨0, (encA a).map .p⟩) :
    ClOK 191 [.ptr A 0 0] g (movG g a).1 (movG g a).2.e b0 h0 := by
  intro h b G R hh hG0 hR0 hG hR hGR hgb
  obtain ⟨ver, cap, g1, hrow⟩ := hgb
  refine ACalls.enter Tryz.func191 rfl (by simp [Tryz.ntmps191]) (fun ι w hn H => ?_)
  have hA2 : h A = some ⟨0, (encA a).map .p⟩ := by rw [hh A hA]; exact hA1
  have nAG : ¬ A = G := by omega
  have nAR : ¬ A = R := by omega
  have nRG : ¬ R = G := fun e => hGR e.symm
  have nGb : ¬ G = b := by omega
  have nRb : ¬ R = b := by omega
  have nAb : ¬ A = b := by omega
  have hbad : ¬ (chkN a.p ≠ 0 ∨ chkN a.q ≠ 0) := by simp [ha, hq]
  have hns : ∀ x ∈ [a.p, a.q], okF x := fun x hx => by
    simp at hx
    rcases hx with rfl | rfl
    · exact .inr ha
    · exact .inr hq
  refine Rk ?_
  refine AWP.seq ?_
  refine AWP.seqReg (by kernel_rfl) (fun E K hE hK => ?_); simp -implicitDefEqProofs only [go_sem, ↓reduceIte, Nat.reduceEqDiff, Nat.reduceAdd, Nat.reduceLT, Nat.reduceLeDiff, reduceCtorEq, Int.toNat_natCast, hA2, encA]
  refine ⟨by decide, ?_⟩
  refine CallR.use (mreadO_ok g.names [a.p, a.q] p.nris p.nok hns (by have := p.nlen; simp only [List.length_cons, List.length_nil]; omega) _ _ G 0 0 b 2 (gB g R ver cap) (show G < b + 1 by omega) nGb (by rw [upd_ne _ _ _ _ nGb]; exact g1) rfl (gB_low (show R < b + 1 by omega)) (upd_same _ _ _) rfl) body_189 ?_
  rintro _ _ ⟨rfl, rfl⟩
  refine Ev ?_
  refine hK _ _ _ ?_; clear hE hK K E
  refine Rk ?_
  refine Bs ?_
  obtain ⟨gr, hgr⟩ : ∃ gr : Gs, gr = { g with names := insN (insN g.names a.p) a.q } := ⟨_, rfl⟩
  refine Am.AWP.genT (fun st => st.n = 1 ∧ clI h b G R A a gr st) ⟨rfl, ⟨ver, cap, by rw [hgr]; exact upd_same _ _ _, by rw [hgr]; exact hrow.of_eq ((upd_ne _ _ _ _ nRG).trans ((delP_at nRb).trans (upd_ne _ _ _ _ nRb)))⟩, (upd_ne _ _ _ _ nAG).trans ((delP_at nAb).trans ((upd_ne _ _ _ _ nAb).trans hA2)), fun id hid a1 a2 => (upd_ne _ _ _ _ a1).trans ((delP_at (Nat.ne_of_lt hid)).trans (upd_ne _ _ _ _ (Nat.ne_of_lt hid))), by exact Er, by exact Er⟩ ?_
  have hgn : gr.now = g.now := by rw [hgr]
  have hgw : gr.writes = g.writes := by rw [hgr]
  clear g1 hrow
  rintro ⟨t, h1, n⟩ ⟨hn1, ⟨ver1, cap1, g1, hrow⟩, hA3, ho, e0, e1⟩
  simp only at hn1 g1 hrow hA3 ho e0 e1
  subst hn1
  refine AWP.known (fun hnew => ?_)
  rw [hgn] at hrow
  have g1' : h1 G = some ⟨0, [.p (.v (.int .i64 gr.kind)), .p (.v (.int .u64 gr.base.gen)), .p (.sl 3 (gr.base.l.map encK)), .p (.v (.int .u64 g.now.gen)), .win R ver1 0 g.now.l.length cap1, .p (.sl 1 (gr.writes.map encS)), .p (.sl 1 (gr.names.map encS)), .p (.sl 1 (gr.dirs.map encS))]⟩ := by rw [← hgn]; exact g1
  refine AWP.seqRegS [] [] (h1) (Sub.refl _) mixed (by kernel_rfl) (by kernel_rfl) (fun K hK => ?_) (by kernel_rfl); simp -implicitDefEqProofs only [go_sem, ↓reduceIte, Nat.reduceEqDiff, Nat.reduceAdd, Nat.reduceLT, Nat.reduceLeDiff, reduceCtorEq, Int.toNat_natCast, e0, e1, g1', hA3, encA, nAG]
  refine CallD.use (mgetO_ok g.now a.p p.ris p.size p.chk (.inr ha) h1 _ (show R < b + 1 by omega) hrow) body_190 ?_
  rintro r2 h2 ⟨ho2, hr2⟩
  refine ⟨sub_lo hnew ho2, ?_⟩
  have ho3 : ∀ id, id < b + 1 → h2 id = h1 id := ho2
  cases hg : getV g.now a.p with
  | none =>
    have hd : movG g a = (gr, errR 4) := by unfold movG; rw [if_neg hbad, hg, hgr]
    rw [hg] at hr2
    subst hr2
    refine Ev ?_
    refine hK _ _ _ ?_; clear hK K
    rw [hd]
    refine AWP.seq ?_
    refine AWP.block ?_
    refine Rk ?_
    refine Bt ?_
    refine Rk ?_
    refine AWP.ret ?_
    refine Ev ?_
    exact Ends.GB rfl H hG hR ⟨ver1, cap1, (ho3 G (by omega)).trans g1, (by rw [hgn]; exact hrow.of_eq (ho3 R (by omega)))⟩ (fun id hid a1 a2 => (ho3 id (Nat.lt_succ_of_lt hid)).trans (ho id hid a1 a2)) (by rw [show Tryz.f191.results.toList = [.tmp 3] from rfl]; exact Er)
  | some k =>
    rw [hg] at hr2
    obtain ⟨rfl, hb2⟩ := hr2
    have hb2' : h2 (b + 1) = some ⟨0, (encK k).map .p⟩ := hb2
    refine Ev ?_
    refine hK _ _ _ ?_; clear hK K
    refine Am.AWP.genT (fun st => st.n = 2 ∧ mvI h b G R A a gr k st) ⟨rfl, ⟨⟨ver1, cap1, (ho3 G (by omega)).trans g1, (by rw [hgn]; exact hrow.of_eq (ho3 R (by omega)))⟩, (ho3 A (by omega)).trans hA3, fun id hid a1 a2 => (ho3 id (Nat.lt_succ_of_lt hid)).trans (ho id hid a1 a2), by exact Erf @e0, by exact Erf @e1⟩, hb2', by exact Er⟩ ?_
    clear g1 g1' hrow hA3 ho e0 e1 hnew ho2 ho3 hb2 hb2' h1 h2 t
    rintro ⟨t, h1, n⟩ ⟨hn1, ⟨⟨ver1, cap1, g1, hrow⟩, hA3, ho, e0, e1⟩, hk1, e5⟩
    simp only at hn1 g1 hrow hA3 ho e0 e1 hk1 e5
    subst hn1
    refine AWP.seq ?_
    refine AWP.block ?_
    refine AWP.seqReg (by kernel_rfl) (fun E K hE hK => ?_); simp -implicitDefEqProofs only [go_sem, ↓reduceIte, Nat.reduceEqDiff, Nat.reduceAdd, Nat.reduceLT, Nat.reduceLeDiff, reduceCtorEq, Int.toNat_natCast, e5, hk1, encK]; refine hK _ _ _ ?_; clear hE hK K E
    refine Bf ?_
    by_cases hpq : a.p = a.q
    · have hd : movG g a = (gr, zR) := by unfold movG; rw [if_neg hbad, hg]; simp only; rw [if_pos hpq, hgr]
      have hpq' : (a.p = a.q) = True := eq_true hpq
      refine AWP.seqReg (by kernel_rfl) (fun E K hE hK => ?_); simp -implicitDefEqProofs only [go_sem, ↓reduceIte, Nat.reduceEqDiff, Nat.reduceAdd, Nat.reduceLT, Nat.reduceLeDiff, reduceCtorEq, Int.toNat_natCast, e1, hA3, encA, mkS_list, hpq', decide_true]; refine hK _ _ _ ?_; clear hE hK K E
      refine Bt ?_
      refine Rk ?_
      refine AWP.ret ?_
      refine Ev ?_
      rw [hd]
      exact Ends.GB rfl H hG hR ⟨ver1, cap1, g1, hrow⟩ ho (by rw [show Tryz.f191.results.toList = [.tmp 3] from rfl]; exact Er)
    have hpq' : (a.p = a.q) = False := eq_false hpq
    refine AWP.seqReg (by kernel_rfl) (fun E K hE hK => ?_); simp -implicitDefEqProofs only [go_sem, ↓reduceIte, Nat.reduceEqDiff, Nat.reduceAdd, Nat.reduceLT, Nat.reduceLeDiff, reduceCtorEq, Int.toNat_natCast, e1, hA3, encA, mkS_list, hpq', decide_false]; refine hK _ _ _ ?_; clear hE hK K E
    refine Bf ?_
    refine AWP.known (fun hnew => ?_)
    rw [hgn] at hrow
    have g1' : h1 G = some ⟨0, [.p (.v (.int .i64 gr.kind)), .p (.v (.int .u64 gr.base.gen)), .p (.sl 3 (gr.base.l.map encK)), .p (.v (.int .u64 g.now.gen)), .win R ver1 0 g.now.l.length cap1, .p (.sl 1 (gr.writes.map encS)), .p (.sl 1 (gr.names.map encS)), .p (.sl 1 (gr.dirs.map encS))]⟩ := by rw [← hgn]; exact g1
    cases hgq : getV g.now a.q with
    | some kq =>
      have hd : movG g a = (gr, errR 5) := by unfold movG; rw [if_neg hbad, hg]; simp only; rw [if_neg hpq, if_pos (by rw [hgq]; rfl), hgr]
      refine AWP.seqRegS [40] [] (h1) (Sub.refl _) mixed (by kernel_rfl) (by kernel_rfl) (fun K hK => ?_) (by kernel_rfl); simp -implicitDefEqProofs only [go_sem, ↓reduceIte, Nat.reduceEqDiff, Nat.reduceAdd, Nat.reduceLT, Nat.reduceLeDiff, reduceCtorEq, Int.toNat_natCast, e0, e1, g1', hA3, encA, nAG]
      refine CallD.use (mgetO_ok g.now a.q p.ris p.size p.chk (.inr hq) h1 _ (show R < b + 2 by omega) hrow) body_190 ?_
      rintro r2 h2 ⟨ho2, hr2⟩
      rw [hgq] at hr2
      obtain ⟨rfl, hb2⟩ := hr2
      refine ⟨sub_lo hnew ho2, ?_⟩
      have hb2' : h2 (b + 2) = some ⟨0, (encK kq).map .p⟩ := hb2
      simp -implicitDefEqProofs only [go_sem, ↓reduceIte, Nat.reduceEqDiff, Nat.reduceAdd, Nat.reduceLT, Nat.reduceLeDiff, reduceCtorEq, Int.toNat_natCast, hb2', encK]
      refine dU_bin (v := BoolV true) (by (first | (simp -implicitDefEqProofs only [go_sem, ↓reduceIte, Nat.reduceEqDiff, Nat.reduceAdd, Nat.reduceLT, Nat.reduceLeDiff, reduceCtorEq, Int.toNat_natCast, hb2', encK]; first | done | rfl) | rfl)) (sub_lo hnew ho2) ?_
      refine Ev ?_
      refine hK _ _ _ ?_; clear hK K
      refine Bt ?_
      refine Rk ?_
      refine AWP.ret ?_
      refine Ev ?_
      have ho3 : ∀ id, id < b + 2 → h2 id = h1 id := ho2
      rw [hd]
      exact Ends.GB rfl H hG hR ⟨ver1, cap1, (ho3 G (by omega)).trans g1, (by rw [hgn]; exact hrow.of_eq (ho3 R (by omega)))⟩ (fun id hid a1 a2 => (ho3 id (by have : id < b := hid; omega)).trans (ho id hid a1 a2)) (by rw [show Tryz.f191.results.toList = [.tmp 3] from rfl]; exact Er)
    | none =>
      have hd : movG g a = ({ g with names := insN (insN g.names a.p) a.q, now := setV (setV g.now a.p none) a.q (some { k with name := a.q }), writes := insN (insN g.writes a.p) a.q }, zR) := by unfold movG; rw [if_neg hbad, hg]; simp only; rw [if_neg hpq, if_neg (by rw [hgq]; simp)]
      refine AWP.seqRegS [40] [] (h1) (Sub.refl _) mixed (by kernel_rfl) (by kernel_rfl) (fun K hK => ?_) (by kernel_rfl); simp -implicitDefEqProofs only [go_sem, ↓reduceIte, Nat.reduceEqDiff, Nat.reduceAdd, Nat.reduceLT, Nat.reduceLeDiff, reduceCtorEq, Int.toNat_natCast, e0, e1, g1', hA3, encA, nAG]
      refine CallD.use (mgetO_ok g.now a.q p.ris p.size p.chk (.inr hq) h1 _ (show R < b + 2 by omega) hrow) body_190 ?_
      rintro r2 h2 ⟨ho2, hr2⟩
      rw [hgq] at hr2
      subst hr2
      refine ⟨sub_lo hnew ho2, ?_⟩
      refine Ev ?_
      refine dU_bin (v := BoolV false) (by exact Er) (sub_lo hnew ho2) ?_
      refine Ev ?_
      refine hK _ _ _ ?_; clear hK K
      refine Bf ?_
      refine AWP.skip ?_
      refine Ev ?_
      rw [hd]
      have ho3 : ∀ id, id < b + 2 → h2 id = h1 id := ho2
      refine Am.AWP.genT (fun st => st.n = 3 ∧ mvI h b G R A a gr k st) ⟨rfl, ⟨⟨ver1, cap1, (ho3 G (by omega)).trans g1, (by rw [hgn]; exact hrow.of_eq (ho3 R (by omega)))⟩, (ho3 A (by omega)).trans hA3, fun id hid a1 a2 => (ho3 id (by omega)).trans (ho id hid a1 a2), by exact Erf @e0, by exact Erf @e1⟩, (ho3 (b + 1) (by omega)).trans hk1, by exact Erf @e5⟩ ?_
      clear g1 g1' hrow hA3 ho e0 e1 hnew ho2 ho3 hk1 e5 h1 h2 t
      rintro ⟨t, h1, n⟩ ⟨hn1, ⟨⟨ver1, cap1, g1, hrow⟩, hA3, ho, e0, e1⟩, hk1, e5⟩
      simp only at hn1 g1 hrow hA3 ho e0 e1 hk1 e5
      subst hn1
      have nAk : ¬ A = b + 1 := by omega
      have nGk : ¬ G = b + 1 := by omega
      have nRk : ¬ R = b + 1 := by omega
      refine AWP.seqReg (by kernel_rfl) (fun E K hE hK => ?_); simp -implicitDefEqProofs only [go_sem, ↓reduceIte, Nat.reduceEqDiff, Nat.reduceAdd, Nat.reduceLT, Nat.reduceLeDiff, reduceCtorEq, Int.toNat_natCast, e5, e1, hk1, hA3, encA, encK]; refine hK _ _ _ ?_; clear hE hK K E
      refine Am.AWP.genT (fun st => st.n = 3 ∧ mvI h b G R A a gr { k with name := a.q } st) ⟨rfl, ⟨⟨ver1, cap1, (upd_ne _ _ _ _ nGk).trans g1, hrow.of_eq (upd_ne _ _ _ _ nRk)⟩, (upd_ne _ _ _ _ nAk).trans hA3, fun id hid a1 a2 => (upd_ne _ _ _ _ (by omega)).trans (ho id hid a1 a2), by exact Erf @e0, by exact Erf @e1⟩, upd_same _ _ _, by exact Erf @e5⟩ ?_
      clear g1 hrow hA3 ho e0 e1 hk1 e5 h1 t
      rintro ⟨t, h1, n⟩ ⟨hn1, ⟨⟨ver1, cap1, g1, hrow⟩, hA3, ho, e0, e1⟩, hk1, e5⟩
      simp only at hn1 g1 hrow hA3 ho e0 e1 hk1 e5
      subst hn1
      refine AWP.known (fun hnew => ?_)
      rw [hgn] at hrow
      have g1' : h1 G = some ⟨0, gB { gr with now := g.now } R ver1 cap1⟩ := by rw [← hgn]; exact g1
      refine AWP.seqRegS [] [] (ers (delH h1 R) G) ((sub_ers _ _).trans (sub_delH _ _)) mixed (by kernel_rfl) (by kernel_rfl) (fun K hK => ?_) (by kernel_rfl); simp -implicitDefEqProofs only [go_sem, ↓reduceIte, Nat.reduceEqDiff, Nat.reduceAdd, Nat.reduceLT, Nat.reduceLeDiff, reduceCtorEq, Int.toNat_natCast, e0, e1, hA3, g1', encA, gB, nAG, nAR, hGR, nRG, delH]
      refine CallD.use (mset_ok g.now.l a.p none p.ris p.size p.chk (.inr ha) h1 _ G R ver1 cap1 3 (gB { gr with now := g.now } R ver1 cap1) (.one (.p (.v (.pointer none)))) (show G < b + 3 by omega) (show R < b + 3 by omega) hGR g1' rfl (gB_low (show R < b + 3 by omega)) hrow rfl (fun K' e => by injection e with e; cases e)) body_186 ?_
      rintro _ h2 ⟨rfl, ver2, cap2, hrow2, hg2, ho2⟩
      refine ⟨sub_gr (b := b + 3) hnew ho2 g1' hg2, ?_⟩
      refine Ev ?_
      refine hK _ _ _ ?_; clear hK K
      have hg2' : h2 G = some ⟨0, gB { gr with now := setV g.now a.p none } R ver2 cap2⟩ := hg2
      have ho3 : ∀ id, id < b + 3 → id ≠ G → id ≠ R → h2 id = h1 id := ho2
      have q1 : Ris nmK (setK nmK a.p none g.now.l) := p.ris.set (fun x hx => by cases hx)
      have q2 : sizeV (setK nmK a.p none g.now.l) := set_size p.size hl (fun x hx => by cases hx)
      have q3 : ∀ x ∈ setK nmK a.p none g.now.l, chkN x.name = 0 := set_chk p.chk (fun x hx => by cases hx)
      refine Am.AWP.genT (fun st => st.n = 3 ∧ mvI h b G R A a { gr with now := setV g.now a.p none } { k with name := a.q } st) ⟨rfl, ⟨⟨ver2, cap2, hg2', hrow2⟩, (ho3 A (by omega) nAG nAR).trans hA3, fun id hid a1 a2 => (ho3 id (by omega) a1 a2).trans (ho id hid a1 a2), by exact Erf @e0, by exact Erf @e1⟩, (ho3 (b + 1) (by omega) (fun e => nGk e.symm) (fun e => nRk e.symm)).trans hk1, by exact Erf @e5⟩ ?_
      clear g1 g1' hg2 hg2' hrow hrow2 hA3 ho e0 e1 hk1 e5 ho2 ho3 hnew h1 h2 t
      rintro ⟨t, h1, n⟩ ⟨hn1, ⟨⟨ver1, cap1, g1, hrow⟩, hA3, ho, e0, e1⟩, hk1, e5⟩
      simp only at hn1 g1 hrow hA3 ho e0 e1 hk1 e5
      subst hn1
      refine AWP.known (fun hnew => ?_)
      refine AWP.seqRegS [] [] (ers (delH h1 R) G) ((sub_ers _ _).trans (sub_delH _ _)) mixed (by kernel_rfl) (by kernel_rfl) (fun K hK => ?_) (by kernel_rfl); simp -implicitDefEqProofs only [go_sem, ↓reduceIte, Nat.reduceEqDiff, Nat.reduceAdd, Nat.reduceLT, Nat.reduceLeDiff, reduceCtorEq, Int.toNat_natCast, e0, e1, e5, hA3, g1, encA, gB, nAG, nAR, hGR, nRG, delH]
      refine CallD.use (mset_ok (setK nmK a.p none g.now.l) a.q (some { k with name := a.q }) q1 q2 q3 (.inr hq) h1 _ G R ver1 cap1 3 (gB { gr with now := setV g.now a.p none } R ver1 cap1) (.one (.ptr (b + 1) 0 0)) (show G < b + 3 by omega) (show R < b + 3 by omega) hGR g1 rfl (gB_low (show R < b + 3 by omega)) hrow ⟨b + 1, rfl, show b + 1 < b + 3 by omega, hk1⟩ (fun K' e => by injection e with e; injection e with e; subst e; exact ⟨fun e => nRk e.symm, fun e => nGk e.symm⟩)) body_186 ?_
      rintro _ h2 ⟨rfl, ver2, cap2, hrow2, hg2, ho2⟩
      refine ⟨sub_gr (b := b + 3) hnew ho2 g1 hg2, ?_⟩
      refine Ev ?_
      refine hK _ _ _ ?_; clear hK K
      have hg2' : h2 G = some ⟨0, gB { gr with now := setV (setV g.now a.p none) a.q (some { k with name := a.q }) } R ver2 cap2⟩ := hg2
      have ho3 : ∀ id, id < b + 3 → id ≠ G → id ≠ R → h2 id = h1 id := ho2
      have hA4 : h2 A = some ⟨0, (encA a).map .p⟩ := by rw [ho3 A (by omega) nAG nAR]; exact hA3
      have nG2 : ¬ G = b + 3 := by omega
      have nR2 : ¬ R = b + 3 := by omega
      clear hg2 ho2
      refine AWP.seqReg (by kernel_rfl) (fun E K hE hK => ?_); simp -implicitDefEqProofs only [go_sem, ↓reduceIte, Nat.reduceEqDiff, Nat.reduceAdd, Nat.reduceLT, Nat.reduceLeDiff, reduceCtorEq, Int.toNat_natCast, e0, e1, hA4, encA]
      refine ⟨by decide, ?_⟩
      refine CallR.use (mwroteO_ok g.writes [a.p, a.q] p.wris p.wok hns (by have := p.wlen; simp only [List.length_cons, List.length_nil]; omega) _ _ G 0 0 (b + 3) 2 (gB { gr with now := setV (setV g.now a.p none) a.q (some { k with name := a.q }) } R ver2 cap2) (show G < b + 4 by omega) nG2 (by rw [upd_ne _ _ _ _ nG2]; exact hg2') (by rw [← hgw]; rfl) (gB_low (show R < b + 4 by omega)) (upd_same _ _ _) rfl) body_187 ?_
      rintro _ _ ⟨rfl, rfl⟩
      refine Ev ?_
      refine hK _ _ _ ?_; clear hE hK K E
      refine AWP.ret ?_
      refine Ends.GB rfl H hG hR ⟨ver2, cap2, ?_, ?_⟩ (fun id hid a1 a2 => ?_) (by rw [show Tryz.f191.results.toList = [.tmp 3] from rfl]; exact Er)
      · subst hgr; exact upd_same _ _ _
      · exact hrow2.of_eq ((upd_ne _ _ _ _ nRG).trans ((delP_at nR2).trans (upd_ne _ _ _ _ nR2)))
      · have hid' : id < b := hid
        exact (upd_ne _ _ _ _ a1).trans ((delP_at (show ¬ id = b + 3 by omega)).trans ((upd_ne _ _ _ _ (show ¬ id = b + 3 by omega)).trans ((ho3 id (by omega) a1 a2).trans (ho id hid a1 a2))))
end Go.Proofs.YtihgnpboabpchaaGreatDoor
namespace Go.Proofs.YtihgnpboabpchaaGreatDoor
set_option linter.unusedSimpArgs false
set_option linter.unusedVariables false
set_option linter.unnecessarySimpa false
open Go Am
set_option maxRecDepth 100000
theorem frb_run (args : Array Value) (w : World) : (callFunc 134 args).run Tryz.prog w = ((Extern.MathFloatBits.float64frombits args).run Tryz.prog w).andThen fun v w' => .ok (.value v) w' :=
  run_callFunc_extern (fn := Tryz.f134) Tryz.func134 (by kernel_rfl) (by kernel_rfl) (by kernel_rfl) (e := Extern.MathFloatBits.float64frombits) (by kernel_rfl) args w
theorem frb_ext {C : Ctx} {h : Heap} {n : Nat} {K : KT} {x : Int} (k : K (.one (.p (.v (.float .f64 x.toNat)))) h n) : ExtK Tryz.prog C 134 [.one (.p (.v (.int .u64 x)))] h n K := by
  intro a w ι Vs I hVs
  obtain ⟨hlen, hVs⟩ := hVs
  match Vs, hlen with
  | [X], _ =>
    have hX := rav_v_inv (hVs 0 _ X rfl rfl)
    subst hX
    refine ⟨.float .f64 x.toNat, w, _, h, n, ι, ?_, k, I, rav_v _, .refl _ _ _ _⟩
    rw [frb_run]
    rfl
theorem isNaNM_ok (x : Nat) (h : Heap) (b : Nat) : ACalls Tryz.prog 80 [.one (.p (.v (.float .f64 x)))] h b 0 (fun r h' => r = BoolV (FloatKind.f64.format.order x x != some .eq) ∧ h' = h) := by
  refine ACalls.enter Tryz.func80 rfl (by simp [Tryz.ntmps80]) (fun ι w hn H => ?_)
  refine Rk ?_
  refine Rk ?_
  refine AWP.ret ?_
  exact Ends.pure hn H (fun _ _ => rfl) (r0 := BoolV (FloatKind.f64.format.order x x != some .eq)) (by rw [show Tryz.f80.results.toList = [.tmp 2] from rfl]; exact Er) (.v _) ⟨rfl, rfl⟩
theorem NaNM_ok (h : Heap) (b : Nat) : ACalls Tryz.prog 81 [] h b 0 (fun r h' => r = .one (.p (.v (.float .f64 9221120237041090561))) ∧ h' = h) := by
  refine ACalls.enter Tryz.func81 rfl (by simp [Tryz.ntmps81]) (fun ι w hn H => ?_)
  refine Rk ?_
  refine Rg (fun E K hE hK => ?_)
  refine CallR.ext (frb_ext ?_)
  refine Ev ?_
  refine hK _ _ _ ?_; clear hE hK K E
  refine AWP.ret ?_
  exact Ends.pure hn H (fun _ _ => rfl) (r0 := .one (.p (.v (.float .f64 9221120237041090561)))) (by rw [show Tryz.f81.results.toList = [.tmp 0] from rfl]; exact Er) (.v _) ⟨rfl, rfl⟩
theorem AWP.cut {P : Program} {C : Ctx} {Q : Exit → St → Prop} {x y : Code} {s : St} (M : St → Prop) (h1 : AWP P C x (fun e s => e = .normal ∧ M s) s) (h2 : ∀ s, M s → AWP P C y Q s) : AWP P C (.seq x y) Q s :=
  .seq (h1.mono fun e s ⟨e1, m⟩ => by subst e1; exact h2 s m)
theorem gs_self {gs : List Gs} {i : Nat} {g : Gs} (h : gs[i]? = some g) : gs.set i g = gs := by
  obtain ⟨hi, e⟩ := List.getElem?_eq_some_iff.1 h
  rw [← e]; exact List.set_getElem_self hi
theorem WB.of {h h' : Heap} {W Q qv qc i : Nat} {v : Vw} {log : List Dn} {gs : List Gs} (w : WB h W Q qv qc i v log gs) (e1 : h' W = h W) (e2 : h' Q = h Q) : WB h' W Q qv qc i v log gs := by
  obtain ⟨T, q1, q2, q3⟩ := w.q
  exact ⟨e1.trans w.w, ⟨T, e2.trans q1, q2, q3⟩, w.n, w.i, w.ne⟩
theorem frz_rpZ {h : Heap} {b : Nat} {e : Int} : frzV h b (.agg [.p (.v (.int .i64 e)), .p (.v (.int .u64 0)), .p (.v (.float .f64 0)), .p (.v (.slice none 0 0)), .p (.v (.slice none 0 0))]) (RpV (errR e)) := frz_rp
theorem frz_rpS {h : Heap} {b : Nat} (r : Rp) : frzV h b (RpV r) (RpV r) := by
  refine .agg rfl (fun i c d hc hd => ?_)
  rw [hc] at hd; injection hd with hd; subst hd
  match i with
  | 0 | 1 | 2 | 3 | 4 => simp at hc; subst hc; exact frz_p _
  | i + 5 => simp at hc
theorem mPut_ok (a : Ac) (g : Gs) (p : GPre g) (had : a.data.length ≤ 1000000) (h : Heap) (b W Q qv qc i : Nat) (v : Vw) (log : List Dn) (gs : List Gs) (hW : W < b) (hQ : Q < b) (hw : WB h W Q qv qc i v log gs) (hg : gs[i]? = some g) :
    ACalls Tryz.prog 141 [.one (.ptr W 0 0), AcV a] h b 0 (MR h b W Q qv qc i v log (gs.set i (putG g a).1) (putG g a).2) := by
  refine ACalls.enter Tryz.func141 rfl (by simp [Tryz.ntmps141]) (fun ι w hn H => ?_)
  have hdl : (a.data.map encO).length = a.data.length := List.length_map _
  have hself := gs_self hg
  have bad : ∀ (t : Nat → AV) (hh : Heap) (n : Nat) (e : Int), putG g a = (g, errR e) → t 4 = .one (.ptr (b + 1) 0 0) → hh (b + 1) = some ⟨0, [.p (.v (.int .i64 e)), .p (.v (.int .u64 0)), .p (.v (.float .f64 0)), .p (.v (.slice none 0 0)), .p (.v (.slice none 0 0))]⟩ → (∀ id, id < b → hh id = h id) →
      Am.Ends Tryz.prog ⟨Tryz.f141.ntmps, b, ι, h, w, x0⟩ Tryz.f141 0 (MR h b W Q qv qc i v log (gs.set i (putG g a).1) (putG g a).2) ⟨t, hh, n⟩ := by
    intro t hh n e he e4 hb1 ho
    rw [he]
    simp only [hself]
    exact Ends.MR rfl H hW hQ (hw.of (ho W hW) (ho Q hQ)) (fun id hid _ _ => ho id hid) (by rw [show Tryz.f141.results.toList = [.cell 4 44] from rfl]; exact Erf (jn2 @e4 @hb1)) frz_rpZ
  refine Rk ?_
  refine AWP.seq ?_
  refine AWP.block ?_
  cases hc : cleanX' [a.p]
  · have h1 : chkN a.p ≠ 0 := by simpa [cleanX'] using hc
    refine AWP.seqReg (by kernel_rfl) (fun E K hE hK => ?_); simp -implicitDefEqProofs only [go_sem, ↓reduceIte, Nat.reduceEqDiff, Nat.reduceAdd, Nat.reduceLT, Nat.reduceLeDiff, reduceCtorEq, Int.toNat_natCast, encA]
    refine Us (mcleanO_ok [a.p] (by simp) (upd_same _ _ _) 1 rfl _) body_183 ?_
    refine Evf @hc ?_
    refine hK _ _ _ ?_; clear hE hK K E
    refine Bt ?_
    refine Rk ?_
    refine AWP.ret ?_
    refine Ev ?_
    exact bad _ _ _ 1 (by unfold putG; rw [if_pos h1]) (by exact Er) (by exact Er) Ou
  have h1 : chkN a.p = 0 := by simpa [cleanX'] using hc
  have hchk := h1
  have h1' : ¬ chkN a.p ≠ 0 := by simpa using h1
  refine AWP.seqReg (by kernel_rfl) (fun E K hE hK => ?_); simp -implicitDefEqProofs only [go_sem, ↓reduceIte, Nat.reduceEqDiff, Nat.reduceAdd, Nat.reduceLT, Nat.reduceLeDiff, reduceCtorEq, Int.toNat_natCast, encA]
  refine Us (mcleanO_ok [a.p] (by simp) (upd_same _ _ _) 1 rfl _) body_183 ?_
  refine Evf @hc ?_
  refine hK _ _ _ ?_; clear hE hK K E
  refine Bf ?_
  by_cases h2 : (65536 : Int) < a.data.length
  · refine AWP.seqReg (by kernel_rfl) (fun E K hE hK => ?_); simp -implicitDefEqProofs only [go_sem, ↓reduceIte, Nat.reduceEqDiff, Nat.reduceAdd, Nat.reduceLT, Nat.reduceLeDiff, reduceCtorEq, Int.toNat_natCast, encA, hdl, h2]; refine hK _ _ _ ?_; clear hE hK K E
    refine Bt ?_
    refine Rk ?_
    refine AWP.ret ?_
    refine Ev ?_
    exact bad _ _ _ 3 (by unfold putG; rw [if_neg h1', if_pos (by omega)]) (by exact Er) (by exact Er) Ou
  refine AWP.seqReg (by kernel_rfl) (fun E K hE hK => ?_); simp -implicitDefEqProofs only [go_sem, ↓reduceIte, Nat.reduceEqDiff, Nat.reduceAdd, Nat.reduceLT, Nat.reduceLeDiff, reduceCtorEq, Int.toNat_natCast, encA, hdl, h2]; refine hK _ _ _ ?_; clear hE hK K E
  refine Bf ?_
  refine AWP.skip ?_
  refine Ev ?_
  refine AWP.known (fun hnew => ?_)
  simp only at hnew
  refine AWP.seqRegD [25] [OctV a.data] [] mixed (by kernel_rfl) (by kernel_rfl) (fun K hK => .inl ?_) (by kernel_rfl); simp -implicitDefEqProofs only [go_sem, ↓reduceIte, Nat.reduceEqDiff, Nat.reduceAdd, Nat.reduceLT, Nat.reduceLeDiff, reduceCtorEq, Int.toNat_natCast, encA]
  refine CallP.use (fun _ _ _ => (clone_oc_ok (a.data.map encO) (okEs_oct a.data) _ _ (by rw [hdl]; omega)).rowFrz (okEs_oct a.data)) body_83 ?_
  simp -implicitDefEqProofs only [go_sem, ↓reduceIte, Nat.reduceEqDiff, Nat.reduceAdd, Nat.reduceLT, Nat.reduceLeDiff, reduceCtorEq, Int.toNat_natCast, encA]
  refine ⟨(Sub.refl _).new (hnew _ (Nat.le_refl _)), (Sub.refl _).new (hnew _ (Nat.le_refl _)), ?_⟩
  refine hK _ _ _ ?_; clear hK K
  obtain ⟨k, hk⟩ : ∃ k : Kn, k = ⟨a.p, canonR a.rank, a.data⟩ := ⟨_, rfl⟩
  have hk' : (putG g a).1 = { g with now := setV g.now a.p (some k), writes := insN g.writes a.p } ∧ (putG g a).2 = zR := by unfold putG; rw [if_neg h1', if_neg (by omega), hk]; exact ⟨rfl, rfl⟩
  refine AWP.cut (fun st => st.n = 4 ∧ st.t 0 = .one (.ptr W 0 0) ∧ st.t 3 = .one (.ptr b 0 0) ∧ st.t 4 = .one (.ptr (b + 1) 0 0) ∧ st.t 5 = .one (.ptr (b + 3) 0 0) ∧ st.h b = some ⟨0, (encA a).map .p⟩ ∧ st.h (b + 1) = some ⟨0, [.p (.v (.int .i64 0)), .p (.v (.int .u64 0)), .p (.v (.float .f64 0)), .p (.v (.slice none 0 0)), .p (.v (.slice none 0 0))]⟩ ∧ st.h (b + 3) = some ⟨0, (encK k).map .p⟩ ∧ ∀ id, id < b → st.h id = h id) ?_ ?_
  · by_cases hnan : (FloatKind.f64.format.order a.rank a.rank != some .eq) = true
    · have hcr : canonR a.rank = 9221120237041090561 := by unfold canonR; rw [if_pos hnan]
      refine AWP.seqReg (by kernel_rfl) (fun E K hE hK => ?_); simp -implicitDefEqProofs only [go_sem, ↓reduceIte, Nat.reduceEqDiff, Nat.reduceAdd, Nat.reduceLT, Nat.reduceLeDiff, reduceCtorEq, Int.toNat_natCast, encA]
      refine Us (isNaNM_ok a.rank _ _) body_80 ?_
      refine Evf @hnan ?_
      refine hK _ _ _ ?_; clear hE hK K E
      refine Bt ?_
      refine Ra (fun E K hE hK => ?_)
      refine Us (NaNM_ok _ _) body_81 ?_
      refine hK _ _ _ ?_; clear hE hK K E
      refine ⟨rfl, rfl, by exact Er, by exact Er, by exact Er, by exact Er, by (first | (simp -implicitDefEqProofs only [go_sem, ↓reduceIte, Nat.reduceEqDiff, Nat.reduceAdd, Nat.reduceLT, Nat.reduceLeDiff, reduceCtorEq, Int.toNat_natCast, encA]; first | done | rfl) | rfl), by exact Er, by rw [hk, encK, hcr]; exact Er, Ou⟩
    · have hcr : canonR a.rank = a.rank := by unfold canonR; rw [if_neg hnan]
      have hnan' : (FloatKind.f64.format.order a.rank a.rank != some .eq) = false := by simpa using hnan
      refine AWP.seqReg (by kernel_rfl) (fun E K hE hK => ?_); simp -implicitDefEqProofs only [go_sem, ↓reduceIte, Nat.reduceEqDiff, Nat.reduceAdd, Nat.reduceLT, Nat.reduceLeDiff, reduceCtorEq, Int.toNat_natCast, encA]
      refine Us (isNaNM_ok a.rank _ _) body_80 ?_
      refine Evf @hnan' ?_
      refine hK _ _ _ ?_; clear hE hK K E
      refine Bf ?_
      refine AWP.skip ?_
      refine ⟨rfl, rfl, by exact Er, by exact Er, by exact Er, by exact Er, by (first | (simp -implicitDefEqProofs only [go_sem, ↓reduceIte, Nat.reduceEqDiff, Nat.reduceAdd, Nat.reduceLT, Nat.reduceLeDiff, reduceCtorEq, Int.toNat_natCast, encA]; first | done | rfl) | rfl), by exact Er, by rw [hk, encK, hcr]; exact Er, Ou⟩
  rintro ⟨t, h1, n⟩ ⟨hn1, e0, e3, e4, e5, hA, hR, hKb, ho⟩
  simp only at hn1 e0 e3 e4 e5 hA hR hKb ho
  subst hn1
  rw [hk'.1, hk'.2]
  refine Rgf (jn4 @e0 @e3 @e4 @e5) (fun E K hE hK => ?_)
  refine CallR.use (trial_ok 185 [.ptr b 0 0, .ptr (b + 3) 0 0] (by kernel_rfl) g _ 0 (by decide) h1 (b + 4) W Q qv qc i v log gs (by omega) (by omega) (hw.of (ho W hW) (ho Q hQ)) hg p.size (putC_ok a k g p hchk h1 (b + 4) b (b + 3) (by omega) (by omega) hA hKb) (by simp [lowCs, lowC])) body_184 ?_
  rintro _ h2 ⟨rfl, hw2, ho2⟩
  have hb2 : h2 (b + 1) = some ⟨0, [.p (.v (.int .i64 0)), .p (.v (.int .u64 0)), .p (.v (.float .f64 0)), .p (.v (.slice none 0 0)), .p (.v (.slice none 0 0))]⟩ := (ho2 (b + 1) (by omega) (by omega) (by omega)).trans hR
  refine Evf (jn2 @e4 @hb2) ?_
  refine hK _ _ _ ?_; clear hE hK K E
  refine AWP.ret ?_
  refine Ev ?_
  exact Ends.MR rfl H hW hQ (hw2.of (upd_ne _ _ _ _ (by omega)) (upd_ne _ _ _ _ (by omega))) (fun id hid a1 a2 => (upd_ne _ _ _ _ (by omega)).trans ((ho2 id (by omega) a1 a2).trans (ho id hid))) (by rw [show Tryz.f141.results.toList = [.cell 4 44] from rfl]; exact Erf @e4) (r0 := RpV (errR 0)) (frz_rpS _)
end Go.Proofs.YtihgnpboabpchaaGreatDoor
namespace Go.Proofs.YtihgnpboabpchaaGreatDoor
set_option linter.unusedSimpArgs false
set_option linter.unusedVariables false
set_option linter.unnecessarySimpa false
open Go Am
set_option maxRecDepth 100000
theorem del_err (g : Gs) (a : Ac) : (delG g a).2 = errR (delG g a).2.e ∧ (delG g a).2.e ≠ 6 := by
  unfold delG; split
  · exact ⟨rfl, by simp [errR, zR]⟩
  · split
    · exact ⟨rfl, by simp [errR, zR]⟩
    · exact ⟨rfl, by simp [errR, zR]⟩
theorem mDel_ok (a : Ac) (g : Gs) (p : GPre g) (h : Heap) (b W Q qv qc i : Nat) (v : Vw) (log : List Dn) (gs : List Gs) (hW : W < b) (hQ : Q < b) (hw : WB h W Q qv qc i v log gs) (hg : gs[i]? = some g) :
    ACalls Tryz.prog 142 [.one (.ptr W 0 0), AcV a] h b 0 (MR h b W Q qv qc i v log (gs.set i (delG g a).1) (delG g a).2) := by
  refine ACalls.enter Tryz.func142 rfl (by simp [Tryz.ntmps142]) (fun ι w hn H => ?_)
  have hself := gs_self hg
  have bad : ∀ (t : Nat → AV) (hh : Heap) (n : Nat), (chkN a.p ≠ 0) → t 4 = .one (.ptr (b + 1) 0 0) → hh (b + 1) = some ⟨0, [.p (.v (.int .i64 1)), .p (.v (.int .u64 0)), .p (.v (.float .f64 0)), .p (.v (.slice none 0 0)), .p (.v (.slice none 0 0))]⟩ → (∀ id, id < b → hh id = h id) →
      Am.Ends Tryz.prog ⟨Tryz.f142.ntmps, b, ι, h, w, x0⟩ Tryz.f142 0 (MR h b W Q qv qc i v log (gs.set i (delG g a).1) (delG g a).2) ⟨t, hh, n⟩ := by
    intro t hh n h1 e4 hb1 ho
    rw [show delG g a = (g, errR 1) by unfold delG; rw [if_pos h1]]
    simp only [hself]
    exact Ends.MR rfl H hW hQ (hw.of (ho W hW) (ho Q hQ)) (fun id hid _ _ => ho id hid) (by rw [show Tryz.f142.results.toList = [.cell 4 44] from rfl]; exact Erf (jn2 @e4 @hb1)) frz_rpZ
  refine Rk ?_
  refine AWP.seq ?_
  cases hc : cleanX' [a.p]
  · have h1 : chkN a.p ≠ 0 := by simpa [cleanX'] using hc
    refine AWP.seqReg (by kernel_rfl) (fun E K hE hK => ?_); simp -implicitDefEqProofs only [go_sem, ↓reduceIte, Nat.reduceEqDiff, Nat.reduceAdd, Nat.reduceLT, Nat.reduceLeDiff, reduceCtorEq, Int.toNat_natCast, encA]
    refine Us (mcleanO_ok [a.p] (by simp) (upd_same _ _ _) 1 rfl _) body_183 ?_
    refine Evf @hc ?_
    refine hK _ _ _ ?_; clear hE hK K E
    refine Bt ?_
    refine Rk ?_
    refine AWP.ret ?_
    refine Ev ?_
    exact bad _ _ _ h1 (by exact Er) (by exact Er) Ou
  have h1 : ¬ (chkN a.p ≠ 0) := by simpa [cleanX'] using hc
  refine AWP.seqReg (by kernel_rfl) (fun E K hE hK => ?_); simp -implicitDefEqProofs only [go_sem, ↓reduceIte, Nat.reduceEqDiff, Nat.reduceAdd, Nat.reduceLT, Nat.reduceLeDiff, reduceCtorEq, Int.toNat_natCast, encA]
  refine Us (mcleanO_ok [a.p] (by simp) (upd_same _ _ _) 1 rfl _) body_183 ?_
  refine Evf @hc ?_
  refine hK _ _ _ ?_; clear hE hK K E
  refine Bs ?_
  refine Am.AWP.genT (fun st => st.n = 3 ∧ st.t 0 = .one (.ptr W 0 0) ∧ st.t 3 = .one (.ptr b 0 0) ∧ st.t 4 = .one (.ptr (b + 1) 0 0) ∧ st.h b = some ⟨0, (encA a).map .p⟩ ∧ st.h (b + 1) = some ⟨0, [.p (.v (.int .i64 0)), .p (.v (.int .u64 0)), .p (.v (.float .f64 0)), .p (.v (.slice none 0 0)), .p (.v (.slice none 0 0))]⟩ ∧ ∀ id, id < b → st.h id = h id) ⟨rfl, by exact Er, by exact Er, by exact Er, by (first | (simp -implicitDefEqProofs only [go_sem, ↓reduceIte, Nat.reduceEqDiff, Nat.reduceAdd, Nat.reduceLT, Nat.reduceLeDiff, reduceCtorEq, Int.toNat_natCast, encA]; first | done | rfl) | rfl), by exact Er, Ou⟩ ?_
  rintro ⟨t, h1', n⟩ ⟨hn1, e0, e3, e4, hA, hR, ho⟩
  simp only at hn1 e0 e3 e4 hA hR ho
  subst hn1
  rw [(del_err g a).1]
  refine Rgf (jn3 @e0 @e3 @e4) (fun E K hE hK => ?_)
  refine CallR.use (trial_ok 188 [.ptr b 0 0] (by kernel_rfl) g _ _ (del_err g a).2 h1' (b + 3) W Q qv qc i v log gs (by omega) (by omega) (hw.of (ho W hW) (ho Q hQ)) hg p.size (delC_ok a g p (by simpa using h1) h1' (b + 3) b (by omega) hA) (by simp [lowCs, lowC])) body_184 ?_
  rintro _ h2 ⟨rfl, hw2, ho2⟩
  have hb2 : h2 (b + 1) = some ⟨0, [.p (.v (.int .i64 0)), .p (.v (.int .u64 0)), .p (.v (.float .f64 0)), .p (.v (.slice none 0 0)), .p (.v (.slice none 0 0))]⟩ := (ho2 (b + 1) (by omega) (by omega) (by omega)).trans hR
  refine Evf (jn2 @e4 @hb2) ?_
  refine hK _ _ _ ?_; clear hE hK K E
  refine AWP.ret ?_
  refine Ev ?_
  exact Ends.MR rfl H hW hQ (hw2.of (upd_ne _ _ _ _ (by omega)) (upd_ne _ _ _ _ (by omega))) (fun id hid a1 a2 => (upd_ne _ _ _ _ (by omega)).trans ((ho2 id (by omega) a1 a2).trans (ho id hid))) (by rw [show Tryz.f142.results.toList = [.cell 4 44] from rfl]; exact Erf @e4) (r0 := RpV (errR (delG g a).2.e)) (frz_rpS _)
theorem move_err (g : Gs) (a : Ac) : (movG g a).2 = errR (movG g a).2.e ∧ (movG g a).2.e ≠ 6 := by
  unfold movG; split
  · exact ⟨rfl, by simp [errR, zR]⟩
  · split
    · exact ⟨rfl, by simp [errR, zR]⟩
    · split
      · exact ⟨rfl, by simp [errR, zR]⟩
      · split
        · exact ⟨rfl, by simp [errR, zR]⟩
        · exact ⟨rfl, by simp [errR, zR]⟩
theorem mMove_ok (a : Ac) (g : Gs) (p : GPre g) (hl : g.now.l.length < 1000000) (h : Heap) (b W Q qv qc i : Nat) (v : Vw) (log : List Dn) (gs : List Gs) (hW : W < b) (hQ : Q < b) (hw : WB h W Q qv qc i v log gs) (hg : gs[i]? = some g) :
    ACalls Tryz.prog 143 [.one (.ptr W 0 0), AcV a] h b 0 (MR h b W Q qv qc i v log (gs.set i (movG g a).1) (movG g a).2) := by
  refine ACalls.enter Tryz.func143 rfl (by simp [Tryz.ntmps143]) (fun ι w hn H => ?_)
  have hself := gs_self hg
  have bad : ∀ (t : Nat → AV) (hh : Heap) (n : Nat), (chkN a.p ≠ 0 ∨ chkN a.q ≠ 0) → t 4 = .one (.ptr (b + 1) 0 0) → hh (b + 1) = some ⟨0, [.p (.v (.int .i64 1)), .p (.v (.int .u64 0)), .p (.v (.float .f64 0)), .p (.v (.slice none 0 0)), .p (.v (.slice none 0 0))]⟩ → (∀ id, id < b → hh id = h id) →
      Am.Ends Tryz.prog ⟨Tryz.f143.ntmps, b, ι, h, w, x0⟩ Tryz.f143 0 (MR h b W Q qv qc i v log (gs.set i (movG g a).1) (movG g a).2) ⟨t, hh, n⟩ := by
    intro t hh n h1 e4 hb1 ho
    rw [show movG g a = (g, errR 1) by unfold movG; rw [if_pos h1]]
    simp only [hself]
    exact Ends.MR rfl H hW hQ (hw.of (ho W hW) (ho Q hQ)) (fun id hid _ _ => ho id hid) (by rw [show Tryz.f143.results.toList = [.cell 4 44] from rfl]; exact Erf (jn2 @e4 @hb1)) frz_rpZ
  refine Rk ?_
  refine AWP.seq ?_
  cases hc : cleanX' [a.p, a.q]
  · have h1 : chkN a.p ≠ 0 ∨ chkN a.q ≠ 0 := by
      by_cases x : chkN a.p = 0
      · refine .inr (fun y => ?_); rw [cleanX'] at hc; simp [x, y] at hc
      · exact .inl x
    refine AWP.seqReg (by kernel_rfl) (fun E K hE hK => ?_); simp -implicitDefEqProofs only [go_sem, ↓reduceIte, Nat.reduceEqDiff, Nat.reduceAdd, Nat.reduceLT, Nat.reduceLeDiff, reduceCtorEq, Int.toNat_natCast, encA]
    refine ⟨by decide, ?_⟩
    refine Us (mcleanO_ok [a.p, a.q] (by simp) (upd_same _ _ _) 2 rfl _) body_183 ?_
    refine Evf @hc ?_
    refine hK _ _ _ ?_; clear hE hK K E
    refine Bt ?_
    refine Rk ?_
    refine AWP.ret ?_
    refine Ev ?_
    exact bad _ _ _ h1 (by exact Er) (by exact Er) Ou
  have h1 : ¬ (chkN a.p ≠ 0 ∨ chkN a.q ≠ 0) := by simp [cleanX'] at hc; simp [hc]
  refine AWP.seqReg (by kernel_rfl) (fun E K hE hK => ?_); simp -implicitDefEqProofs only [go_sem, ↓reduceIte, Nat.reduceEqDiff, Nat.reduceAdd, Nat.reduceLT, Nat.reduceLeDiff, reduceCtorEq, Int.toNat_natCast, encA]
  refine ⟨by decide, ?_⟩
  refine Us (mcleanO_ok [a.p, a.q] (by simp) (upd_same _ _ _) 2 rfl _) body_183 ?_
  refine Evf @hc ?_
  refine hK _ _ _ ?_; clear hE hK K E
  refine Bs ?_
  refine Am.AWP.genT (fun st => st.n = 3 ∧ st.t 0 = .one (.ptr W 0 0) ∧ st.t 3 = .one (.ptr b 0 0) ∧ st.t 4 = .one (.ptr (b + 1) 0 0) ∧ st.h b = some ⟨0, (encA a).map .p⟩ ∧ st.h (b + 1) = some ⟨0, [.p (.v (.int .i64 0)), .p (.v (.int .u64 0)), .p (.v (.float .f64 0)), .p (.v (.slice none 0 0)), .p (.v (.slice none 0 0))]⟩ ∧ ∀ id, id < b → st.h id = h id) ⟨rfl, by exact Er, by exact Er, by exact Er, by (first | (simp -implicitDefEqProofs only [go_sem, ↓reduceIte, Nat.reduceEqDiff, Nat.reduceAdd, Nat.reduceLT, Nat.reduceLeDiff, reduceCtorEq, Int.toNat_natCast, encA]; first | done | rfl) | rfl), by exact Er, Ou⟩ ?_
  rintro ⟨t, h1', n⟩ ⟨hn1, e0, e3, e4, hA, hR, ho⟩
  simp only at hn1 e0 e3 e4 hA hR ho
  subst hn1
  rw [(move_err g a).1]
  refine Rgf (jn3 @e0 @e3 @e4) (fun E K hE hK => ?_)
  refine CallR.use (trial_ok 191 [.ptr b 0 0] (by kernel_rfl) g _ _ (move_err g a).2 h1' (b + 3) W Q qv qc i v log gs (by omega) (by omega) (hw.of (ho W hW) (ho Q hQ)) hg p.size (movC_ok a g p hl (by simp at h1; exact h1.1) (by simp at h1; exact h1.2) h1' (b + 3) b (by omega) hA) (by simp [lowCs, lowC])) body_184 ?_
  rintro _ h2 ⟨rfl, hw2, ho2⟩
  have hb2 : h2 (b + 1) = some ⟨0, [.p (.v (.int .i64 0)), .p (.v (.int .u64 0)), .p (.v (.float .f64 0)), .p (.v (.slice none 0 0)), .p (.v (.slice none 0 0))]⟩ := (ho2 (b + 1) (by omega) (by omega) (by omega)).trans hR
  refine Evf (jn2 @e4 @hb2) ?_
  refine hK _ _ _ ?_; clear hE hK K E
  refine AWP.ret ?_
  refine Ev ?_
  exact Ends.MR rfl H hW hQ (hw2.of (upd_ne _ _ _ _ (by omega)) (upd_ne _ _ _ _ (by omega))) (fun id hid a1 a2 => (upd_ne _ _ _ _ (by omega)).trans ((ho2 id (by omega) a1 a2).trans (ho id hid))) (by rw [show Tryz.f143.results.toList = [.cell 4 44] from rfl]; exact Erf @e4) (r0 := RpV (errR (movG g a).2.e)) (frz_rpS _)
end Go.Proofs.YtihgnpboabpchaaGreatDoor
namespace Go.Proofs.YtihgnpboabpchaaGreatDoor
set_option linter.unusedSimpArgs false
set_option linter.unusedVariables false
set_option linter.unnecessarySimpa false
open Go Am
set_option maxRecDepth 100000
abbrev nlC : Cell := .p (.v (.slice none 0 0))
theorem upd_twice (h : Heap) (q : Nat) (x y : Blk) : upd (upd h q x) q y = upd h q y := by
  funext i
  by_cases e : i = q
  · subst e; rw [upd_same, upd_same]
  · rw [upd_ne _ _ _ _ e, upd_ne _ _ _ _ e, upd_ne _ _ _ _ e]
theorem get_app {A R : List Cell} (j : Nat) : (A ++ R)[A.length + j]? = R[j]? := by
  rw [List.getElem?_append_right (by omega)]; congr 1; omega
theorem set_app {A R : List Cell} (j : Nat) (x : Cell) : (A ++ R).set (A.length + j) x = A ++ R.set j x := by
  rw [List.set_append_right _ _ (by omega)]; congr 2; omega
theorem AWP.nilL {P : Program} {C : Ctx} {Q : Exit → St → Prop} {c : Code} {t : Nat → AV} {h : Heap} {n : Nat} (q : Nat) (j sz : Nat) {qv : Nat} {A R : List Cell} (hb : h q = some ⟨qv, A ++ R⟩) (hj : R[j]? = some nlC)
    (K : AWP P C c Q ⟨t, upd h q ⟨qv, A ++ R.set j (.p (.sl sz []))⟩, n⟩) : AWP P C c Q ⟨t, h, n⟩ := by
  refine AWP.nilAt q (A.length + j) sz hb ((get_app j).trans hj) ?_
  simp only [set_app]
  exact K
theorem AWP.nilG3 {P : Program} {C : Ctx} {Q : Exit → St → Prop} {c : Code} {t : Nat → AV} {h : Heap} {n : Nat} (q : Nat) {qv : Nat} {A B : List Cell} {c0 c1 c2 c3 c4 : Cell} (hb : h q = some ⟨qv, A ++ c0 :: c1 :: c2 :: c3 :: c4 :: nlC :: nlC :: nlC :: B⟩)
    (K : AWP P C c Q ⟨t, upd h q ⟨qv, A ++ c0 :: c1 :: c2 :: c3 :: c4 :: .p (.sl 1 []) :: .p (.sl 1 []) :: .p (.sl 1 []) :: B⟩, n⟩) : AWP P C c Q ⟨t, h, n⟩ := by
  refine AWP.nilL q 5 1 hb rfl (AWP.nilL q 6 1 (upd_same _ _ _) rfl (AWP.nilL q 7 1 (upd_same _ _ _) rfl ?_))
  rw [upd_twice, upd_twice]
  exact K
theorem AWP.nilG5 {P : Program} {C : Ctx} {Q : Exit → St → Prop} {c : Code} {t : Nat → AV} {h : Heap} {n : Nat} (q : Nat) {qv : Nat} {A B : List Cell} {c0 c1 c3 : Cell} (hb : h q = some ⟨qv, A ++ c0 :: c1 :: nlC :: c3 :: nlC :: nlC :: nlC :: nlC :: B⟩)
    (K : AWP P C c Q ⟨t, upd h q ⟨qv, A ++ c0 :: c1 :: .p (.sl 3 []) :: c3 :: .p (.sl 3 []) :: .p (.sl 1 []) :: .p (.sl 1 []) :: .p (.sl 1 []) :: B⟩, n⟩) : AWP P C c Q ⟨t, h, n⟩ := by
  refine AWP.nilL q 2 3 hb rfl (AWP.nilL q 4 3 (upd_same _ _ _) rfl (AWP.nilG3 q (upd_same _ _ _) ?_))
  rw [upd_twice, upd_twice]
  exact K
theorem mAbort_ok (a : Ac) (h : Heap) (b W Q qv qc i : Nat) (v : Vw) (log : List Dn) (gs : List Gs) (hW : W < b) (hQ : Q < b) (hw : WB h W Q qv qc i v log gs) :
    ACalls Tryz.prog 147 [.one (.ptr W 0 0), AcV a] h b 0 (MR h b W Q qv qc i v log (gs.set i zG) zR) := by
  refine ACalls.enter Tryz.func147 rfl (by simp [Tryz.ntmps147]) (fun ι w hn H => ?_)
  obtain ⟨w1, w2, w3, w4, w5⟩ := hw
  obtain ⟨T, q1, q2, q3⟩ := w2
  have hgl : i < gs.length := by omega
  have hset := gs_set T hgl zG
  have hlm : (gs.map encG).length = gs.length := List.length_map _
  have hlL : ((gs.map encG).flatten.map Cell.p ++ T).length = gs.length * 8 + T.length := by rw [List.length_append, List.length_map, okEs_len (okEs_gs gs), hlm]
  have q1' : h Q = some ⟨qv, (gs.map encG).flatten.map Cell.p ++ T⟩ := q1
  have hWQ : ¬ Q = W := fun e => w5 e.symm
  generalize hL : (gs.map encG).flatten.map Cell.p ++ T = L at q1' hset hlL
  have nW0 : ¬ W = b := by omega
  have nW1 : ¬ W = b + 1 := by omega
  have nQ0 : ¬ Q = b := by omega
  have nQ1 : ¬ Q = b + 1 := by omega
  refine Rk ?_
  refine AWP.seqReg (by kernel_rfl) (fun E K hE hK => ?_); simp -implicitDefEqProofs only [go_sem, ↓reduceIte, Nat.reduceEqDiff, Nat.reduceAdd, Nat.reduceLT, Nat.reduceLeDiff, reduceCtorEq, Int.toNat_natCast, w1, q1', nW0, nQ0, nW1, nQ1, wB]
  refine ⟨by omega, ?_⟩
  refine hK _ _ _ ?_; clear hE hK K E
  refine AWP.nilG5 Q (upd_same _ _ _) ?_
  rw [upd_twice]
  refine Am.AWP.genT (fun st => st.n = 2 ∧ st.t 4 = .one (.ptr (b + 1) 0 0) ∧ st.h (b + 1) = some ⟨0, [.p (.v (.int .i64 0)), .p (.v (.int .u64 0)), .p (.v (.float .f64 0)), .p (.v (.slice none 0 0)), .p (.v (.slice none 0 0))]⟩ ∧ st.h Q = some ⟨qv, ((gs.set i zG).map encG).flatten.map Cell.p ++ T⟩ ∧ ∀ id, id < b → id ≠ Q → st.h id = h id) ⟨rfl, by exact Er, by exact Erf (jn2 @nQ1 (show ¬ b + 1 = Q by omega)), (upd_same _ _ _).trans (by rw [← hset]; rfl), fun id hid a1 => by exact Ecf (jn3 @a1 (show ¬ id = b by omega) (show ¬ id = b + 1 by omega))⟩ ?_
  rintro ⟨t, h1, n⟩ ⟨hn1, e4, hR, hq, ho⟩
  simp only at hn1 e4 hR hq ho
  subst hn1
  refine Rkf (jn2 @e4 @hR) ?_
  refine AWP.ret ?_
  refine Ev ?_
  refine Ends.MR rfl H hW hQ ⟨(upd_ne _ _ _ _ nW1).trans ((ho W hW w5).trans w1), ⟨T, (upd_ne _ _ _ _ nQ1).trans hq, by simp only [List.length_map, List.length_set] at q2 ⊢; exact q2, q3⟩, by rw [List.length_set]; exact w3, w4, w5⟩ (fun id hid a1 a2 => (upd_ne _ _ _ _ (by omega)).trans (ho id hid a1)) (r0 := .agg [.p (.v (.int .i64 0)), .p (.v (.int .u64 0)), .p (.v (.float .f64 0)), .p (.v (.slice none 0 0)), .p (.v (.slice none 0 0))]) (by rw [show Tryz.f147.results.toList = [.cell 4 44] from rfl]; exact Erf @e4) frz_rpZ
def begG (v : Vw) (g : Gs) (a : Ac) : Gs × Rp := if g.kind ≠ 0 then (g, errR 10) else (⟨a.kind, v, v, [], [], []⟩, ⟨0, v.gen, 0, [], []⟩)
theorem mBegin_ok (a : Ac) (g : Gs) (h : Heap) (b W Q qv qc i : Nat) (v : Vw) (hsz : sizeV v.l) (log : List Dn) (gs : List Gs) (hW : W < b) (hQ : Q < b) (hw : WB h W Q qv qc i v log gs) (hg : gs[i]? = some g) :
    ACalls Tryz.prog 96 [.one (.ptr W 0 0), AcV a] h b 0 (MR h b W Q qv qc i v log (gs.set i (begG v g a).1) (begG v g a).2) := by
  refine ACalls.enter Tryz.func96 rfl (by simp [Tryz.ntmps96]) (fun ι w hn H => ?_)
  have hself := gs_self hg
  have hw0 := hw
  obtain ⟨w1, w2, w3, w4, w5⟩ := hw
  obtain ⟨T, q1, q2, q3⟩ := w2
  have hgl : i < gs.length := by omega
  have hge : gs[i] = g := by rw [List.getElem?_eq_getElem hgl] at hg; injection hg
  have hpart := gs_at T hgl
  rw [hge] at hpart
  have hset := gs_set T hgl ⟨a.kind, v, v, [], [], []⟩
  have hlm : (gs.map encG).length = gs.length := List.length_map _
  have hlL : ((gs.map encG).flatten.map Cell.p ++ T).length = gs.length * 8 + T.length := by rw [List.length_append, List.length_map, okEs_len (okEs_gs gs), hlm]
  have q1' : h Q = some ⟨qv, (gs.map encG).flatten.map Cell.p ++ T⟩ := q1
  have hWQ : ¬ Q = W := fun e => w5 e.symm
  generalize hL : (gs.map encG).flatten.map Cell.p ++ T = L at q1' hpart hset hlL
  have hk0 : L[i * 8]? = some (.p (.v (.int .i64 g.kind))) := by
    have := congrArg (fun l => l[0]?) hpart
    simpa using this
  have nW0 : ¬ W = b := by omega
  have nW1 : ¬ W = b + 1 := by omega
  have nQ0 : ¬ Q = b := by omega
  have nQ1 : ¬ Q = b + 1 := by omega
  refine Rk ?_
  refine AWP.seq ?_
  refine AWP.seqReg (by kernel_rfl) (fun E K hE hK => ?_); simp -implicitDefEqProofs only [go_sem, ↓reduceIte, Nat.reduceEqDiff, Nat.reduceAdd, Nat.reduceLT, Nat.reduceLeDiff, reduceCtorEq, Int.toNat_natCast, w1, q1', hk0, nW0, nQ0, nW1, nQ1, wB]
  refine hK _ _ _ ?_; clear hE hK K E
  by_cases hk : g.kind = 0
  · have hd : begG v g a = (⟨a.kind, v, v, [], [], []⟩, ⟨0, v.gen, 0, [], []⟩) := by unfold begG; rw [if_neg (by simpa using hk)]
    have hk' : (!decide (g.kind = 0)) = false := by simp [hk]
    rw [hk']
    refine Bf ?_
    refine AWP.skip ?_
    refine Ev ?_
    have nQ0' : ¬ b = Q := fun e => nQ0 e.symm
    have nQ1' : ¬ b + 1 = Q := fun e => nQ1 e.symm
    refine AWP.seqRegD [25, 31] [VwV v, VwV v] [Q] mixed (by kernel_rfl) (by kernel_rfl) (fun K hK => .inl ?_) (by kernel_rfl); simp -implicitDefEqProofs only [go_sem, ↓reduceIte, Nat.reduceEqDiff, Nat.reduceAdd, Nat.reduceLT, Nat.reduceLeDiff, reduceCtorEq, Int.toNat_natCast, w1, q1', nW0, nQ0, nW1, nQ1, nQ0', nQ1', hWQ, w5, wB]
    refine CallP.use (fun _ _ _ => mownZ_ok v hsz _ _) body_92 ?_
    simp -implicitDefEqProofs only [go_sem, ↓reduceIte, Nat.reduceEqDiff, Nat.reduceAdd, Nat.reduceLT, Nat.reduceLeDiff, reduceCtorEq, Int.toNat_natCast, w1, q1', nW0, nQ0, nW1, nQ1, nQ0', nQ1', hWQ, w5, wB]
    refine CallP.use (fun _ _ _ => mownZ_ok v hsz _ _) body_92 ?_
    simp -implicitDefEqProofs only [go_sem, ↓reduceIte, Nat.reduceEqDiff, Nat.reduceAdd, Nat.reduceLT, Nat.reduceLeDiff, reduceCtorEq, Int.toNat_natCast, w1, q1', nW0, nQ0, nW1, nQ1, nQ0', nQ1', hWQ, w5, wB]
    refine ⟨by omega, sub_at _ (by exact Erf (jn3 @nQ0 @nQ1 @q1')), ?_⟩
    refine hK _ _ _ ?_; clear hK K
    refine AWP.nilG3 Q (upd_same _ _ _) ?_
    rw [upd_twice, hd]
    refine Am.AWP.genT (fun st => st.n = 2 ∧ st.t 0 = .one (.ptr W 0 0) ∧ st.t 4 = .one (.ptr (b + 1) 0 0) ∧ st.h (b + 1) = some ⟨0, [.p (.v (.int .i64 0)), .p (.v (.int .u64 0)), .p (.v (.float .f64 0)), .p (.v (.slice none 0 0)), .p (.v (.slice none 0 0))]⟩ ∧ st.h Q = some ⟨qv, ((gs.set i ⟨a.kind, v, v, [], [], []⟩).map encG).flatten.map Cell.p ++ T⟩ ∧ ∀ id, id < b → id ≠ Q → st.h id = h id) ⟨rfl, by exact Er, by exact Er, by exact Erf @nQ1', (upd_same _ _ _).trans (by rw [← hset]; rfl), fun id (hid : id < b) a1 => by exact Ecf (jn3 @a1 (show ¬ id = b by omega) (show ¬ id = b + 1 by omega))⟩ ?_
    rintro ⟨t, h1, n⟩ ⟨hn1, e0, e4, hR, hq, ho⟩
    simp only at hn1 e0 e4 hR hq ho
    subst hn1
    have w1' : h1 W = some ⟨0, wB v log Q qv qc i⟩ := (ho W hW w5).trans w1
    refine AWP.seqReg (by kernel_rfl) (fun E K hE hK => ?_); simp -implicitDefEqProofs only [go_sem, ↓reduceIte, Nat.reduceEqDiff, Nat.reduceAdd, Nat.reduceLT, Nat.reduceLeDiff, reduceCtorEq, Int.toNat_natCast, e0, e4, hR, w1', wB]; refine hK _ _ _ ?_; clear hE hK K E
    refine AWP.ret ?_
    refine Ev ?_
    refine Ends.MR rfl H hW hQ ⟨(upd_ne _ _ _ _ nW1).trans w1', ⟨T, (upd_ne _ _ _ _ nQ1).trans hq, by simp only [List.length_map, List.length_set] at q2 ⊢; exact q2, q3⟩, by rw [List.length_set]; exact w3, w4, w5⟩ (fun id hid a1 a2 => (upd_ne _ _ _ _ (by omega)).trans (ho id hid a1)) (r0 := .agg [.p (.v (.int .i64 0)), .p (.v (.int .u64 v.gen)), .p (.v (.float .f64 0)), .p (.v (.slice none 0 0)), .p (.v (.slice none 0 0))]) (by rw [show Tryz.f96.results.toList = [.cell 4 44] from rfl]; exact Erf @e4) frz_rp
  · have hd : begG v g a = (g, errR 10) := by unfold begG; rw [if_pos hk]
    have hk' : (!decide (g.kind = 0)) = true := by simp [hk]
    rw [hk']
    refine Bt ?_
    refine Rk ?_
    refine AWP.ret ?_
    refine Ev ?_
    rw [hd]
    simp only [hself]
    exact Ends.MR rfl H hW hQ (hw0.of (by exact Erf (jn2 @nW0 @nW1)) (by exact Erf (jn2 @nQ0 @nQ1))) (fun id (hid : id < b) _ _ => by exact Ecf (jn2 (show ¬ id = b by omega) (show ¬ id = b + 1 by omega))) (by rw [show Tryz.f96.results.toList = [.cell 4 44] from rfl]; exact Er) frz_rpZ
end Go.Proofs.YtihgnpboabpchaaGreatDoor
namespace Go.Proofs.YtihgnpboabpchaaGreatDoor
set_option linter.unusedSimpArgs false
set_option linter.unusedVariables false
set_option linter.unnecessarySimpa false
open Go Am
set_option maxRecDepth 100000
theorem row_split {L E : List Cell} {k : Nat} (h : List.take 8 (List.drop k L) = E) (hl : k ≤ L.length) : ∃ A D, L = A ++ (E ++ D) ∧ A.length = k ∧ D = List.drop (k + 8) L ∧ A = List.take k L := by
  refine ⟨List.take k L, List.drop (k + 8) L, ?_, by rw [List.length_take]; omega, rfl, rfl⟩
  rw [← h, ← List.drop_drop, List.take_append_drop, List.take_append_drop]
theorem gs_names {gs : List Gs} (T : List Cell) {i : Nat} (hi : i < gs.length) {g : Gs} (hg : gs[i] = g) (ns : List S) :
    List.take (i * 8 + 6) ((gs.map encG).flatten.map Cell.p ++ T) ++ .p (.sl 1 (ns.map encS)) :: List.drop (i * 8 + 6 + 1) ((gs.map encG).flatten.map Cell.p ++ T) = ((gs.set i { g with names := ns }).map encG).flatten.map Cell.p ++ T := by
  have hpart := gs_at T hi
  rw [hg] at hpart
  rw [← gs_set T hi { g with names := ns }]
  have hlL : ((gs.map encG).flatten.map Cell.p ++ T).length = gs.length * 8 + T.length := by rw [List.length_append, List.length_map, okEs_len (okEs_gs gs), List.length_map]
  generalize (gs.map encG).flatten.map Cell.p ++ T = L at hpart hlL
  obtain ⟨A, D, e, e2, e3, e4⟩ := row_split hpart (by omega)
  rw [← e3, ← e4, ← e2, e, List.take_length_add_append, show A.length + 6 + 1 = A.length + 7 from rfl, List.drop_length_add_append]
  simp [encG]
theorem gs_cell {L : List Cell} {E : List Cell} {k : Nat} (h : List.take 8 (List.drop k L) = E) (j : Nat) (hj : j < 8) : L[k + j]? = E[j]? := by
  rw [← h, List.getElem?_take_of_lt hj, List.getElem?_drop]
theorem gs_two {L : List Cell} {E : List Cell} {k : Nat} (h : List.take 8 (List.drop k L) = E) : List.take 2 (List.drop (k + 3) L) = List.take 2 (List.drop 3 E) := by
  rw [← h, List.drop_take, List.take_take, List.drop_drop]; rfl
theorem frz_rpD {h : Heap} {b : Nat} {x y z d : PD} : frzV h b (.agg [.p x, .p y, .p z, .p d, .p (.v (.slice none 0 0))]) (.agg [.p x, .p y, .p z, .p d, .p (.sl 1 [])]) := by
  refine .agg rfl (fun i c d hc hd => ?_)
  match i with
  | 0 => simp at hc hd; subst hc; subst hd; exact frz_p _
  | 1 => simp at hc hd; subst hc; subst hd; exact frz_p _
  | 2 => simp at hc hd; subst hc; subst hd; exact frz_p _
  | 3 => simp at hc hd; subst hc; subst hd; exact frz_p _
  | 4 => simp at hc hd; subst hc; subst hd; exact frz_nil 1
  | i + 5 => simp at hc
theorem mLook_ok (a : Ac) (g : Gs) (p : GPre g) (h : Heap) (b W Q qv qc i : Nat) (v : Vw) (log : List Dn) (gs : List Gs) (hW : W < b) (hQ : Q < b) (hw : WB h W Q qv qc i v log gs) (hg : gs[i]? = some g) :
    ACalls Tryz.prog 145 [.one (.ptr W 0 0), AcV a] h b 0 (MR h b W Q qv qc i v log (gs.set i (lookG g a).1) (lookG g a).2) := by
  refine ACalls.enter Tryz.func145 rfl (by simp [Tryz.ntmps145]) (fun ι w hn H => ?_)
  have hself := gs_self hg
  have bad : ∀ (t : Nat → AV) (hh : Heap) (n : Nat), chkN a.p ≠ 0 → t 4 = .one (.ptr (b + 1) 0 0) → hh (b + 1) = some ⟨0, [.p (.v (.int .i64 1)), .p (.v (.int .u64 0)), .p (.v (.float .f64 0)), .p (.v (.slice none 0 0)), .p (.v (.slice none 0 0))]⟩ → (∀ id, id < b → hh id = h id) →
      Am.Ends Tryz.prog ⟨Tryz.f145.ntmps, b, ι, h, w, x0⟩ Tryz.f145 0 (MR h b W Q qv qc i v log (gs.set i (lookG g a).1) (lookG g a).2) ⟨t, hh, n⟩ := by
    intro t hh n h1 e4 hb1 ho
    rw [show lookG g a = (g, errR 1) by unfold lookG; rw [if_pos h1]]
    simp only [hself]
    exact Ends.MR rfl H hW hQ (hw.of (ho W hW) (ho Q hQ)) (fun id hid _ _ => ho id hid) (by rw [show Tryz.f145.results.toList = [.cell 4 44] from rfl]; exact Erf (jn2 @e4 @hb1)) frz_rpZ
  refine Rk ?_
  refine AWP.seq ?_
  cases hc : cleanX' [a.p]
  · have h1 : chkN a.p ≠ 0 := by simpa [cleanX'] using hc
    refine AWP.seqReg (by kernel_rfl) (fun E K hE hK => ?_); simp -implicitDefEqProofs only [go_sem, ↓reduceIte, Nat.reduceEqDiff, Nat.reduceAdd, Nat.reduceLT, Nat.reduceLeDiff, reduceCtorEq, Int.toNat_natCast, encA]
    refine Us (mcleanO_ok [a.p] (by simp) (upd_same _ _ _) 1 rfl _) body_183 ?_
    refine Evf @hc ?_
    refine hK _ _ _ ?_; clear hE hK K E
    refine Bt ?_
    refine Rk ?_
    refine AWP.ret ?_
    refine Ev ?_
    exact bad _ _ _ h1 (by exact Er) (by exact Er) Ou
  have hchk : chkN a.p = 0 := by simpa [cleanX'] using hc
  have h1 : ¬ chkN a.p ≠ 0 := by simpa using hchk
  refine AWP.seqReg (by kernel_rfl) (fun E K hE hK => ?_); simp -implicitDefEqProofs only [go_sem, ↓reduceIte, Nat.reduceEqDiff, Nat.reduceAdd, Nat.reduceLT, Nat.reduceLeDiff, reduceCtorEq, Int.toNat_natCast, encA]
  refine Us (mcleanO_ok [a.p] (by simp) (upd_same _ _ _) 1 rfl _) body_183 ?_
  refine Evf @hc ?_
  refine hK _ _ _ ?_; clear hE hK K E
  refine Bs ?_
  refine Am.AWP.genT (fun st => st.n = 3 ∧ st.t 0 = .one (.ptr W 0 0) ∧ st.t 3 = .one (.ptr b 0 0) ∧ st.t 4 = .one (.ptr (b + 1) 0 0) ∧ st.h b = some ⟨0, (encA a).map .p⟩ ∧ st.h (b + 1) = some ⟨0, [.p (.v (.int .i64 0)), .p (.v (.int .u64 0)), .p (.v (.float .f64 0)), .p (.v (.slice none 0 0)), .p (.v (.slice none 0 0))]⟩ ∧ ∀ id, id < b → st.h id = h id) ⟨rfl, by exact Er, by exact Er, by exact Er, by (first | (simp -implicitDefEqProofs only [go_sem, ↓reduceIte, Nat.reduceEqDiff, Nat.reduceAdd, Nat.reduceLT, Nat.reduceLeDiff, reduceCtorEq, Int.toNat_natCast, encA]; first | done | rfl) | rfl), by exact Er, Ou⟩ ?_
  rintro ⟨t, h1', n⟩ ⟨hn1, e0, e3, e4, hA, hR, ho⟩
  simp only at hn1 e0 e3 e4 hA hR ho
  subst hn1
  obtain ⟨g', hg'⟩ : ∃ g' : Gs, g' = if g.kind = 1 then { g with names := insN g.names a.p } else g := ⟨_, rfl⟩
  have hnow : g'.now = g.now := by rw [hg']; split <;> rfl
  refine AWP.cut (fun st => st.n = 3 ∧ st.t 0 = .one (.ptr W 0 0) ∧ st.t 3 = .one (.ptr b 0 0) ∧ st.t 4 = .one (.ptr (b + 1) 0 0) ∧ st.h b = some ⟨0, (encA a).map .p⟩ ∧ st.h (b + 1) = some ⟨0, [.p (.v (.int .i64 0)), .p (.v (.int .u64 0)), .p (.v (.float .f64 0)), .p (.v (.slice none 0 0)), .p (.v (.slice none 0 0))]⟩ ∧ WB st.h W Q qv qc i v log (gs.set i g') ∧ ∀ id, id < b → id ≠ Q → st.h id = h id) ?_ ?_
  · obtain ⟨w1, w2, w3, w4, w5⟩ := hw.of (ho W hW) (ho Q hQ)
    obtain ⟨T, q1, q2, q3⟩ := w2
    have hgl : i < gs.length := by omega
    have hge : gs[i] = g := by rw [List.getElem?_eq_getElem hgl] at hg; injection hg
    have hpart := gs_at T hgl
    rw [hge] at hpart
    have hset := gs_names T hgl hge (insN g.names a.p)
    have hlm : (gs.map encG).length = gs.length := List.length_map _
    have hlL : ((gs.map encG).flatten.map Cell.p ++ T).length = gs.length * 8 + T.length := by rw [List.length_append, List.length_map, okEs_len (okEs_gs gs), hlm]
    have hlow : ∀ k, lowCs k ((gs.map encG).flatten.map Cell.p ++ T) = true := fun k => lowCs_app (lowCs_p _ _) (lowCs_mono (Nat.zero_le _) q3)
    have q1' : h1' Q = some ⟨qv, (gs.map encG).flatten.map Cell.p ++ T⟩ := q1
    have hWQ : ¬ Q = W := fun e => w5 e.symm
    generalize hL : (gs.map encG).flatten.map Cell.p ++ T = L at q1' hpart hset hlL hlow
    have hk0 : L[i * 8]? = some (.p (.v (.int .i64 g.kind))) := gs_cell hpart 0 (by decide)
    have hk6 : L[i * 8 + 6]? = some (.p (.sl 1 (g.names.map encS))) := gs_cell hpart 6 (by decide)
    by_cases hk : g.kind = 1
    · have hg2 : g' = { g with names := insN g.names a.p } := by rw [hg', if_pos hk]
      rw [← hg2] at hset
      have hbQ : ¬ b = Q := by omega
      have hb1Q : ¬ b + 1 = Q := by omega
      have hN : ¬ Q = b + 3 := by omega
      have hNW : ¬ W = b + 3 := by omega
      refine AWP.seqReg (by kernel_rfl) (fun E K hE hK => ?_); simp -implicitDefEqProofs only [go_sem, ↓reduceIte, Nat.reduceEqDiff, Nat.reduceAdd, Nat.reduceLT, Nat.reduceLeDiff, reduceCtorEq, Int.toNat_natCast, e0, w1, q1', hk0, wB, hk]; refine hK _ _ _ ?_; clear hE hK K E
      refine Bt ?_
      refine AWP.known (fun hnew => ?_)
      simp only at hnew
      refine AWP.seqRegS [] [] (ers h1' Q) (sub_ers _ _) mixed (by kernel_rfl) (by kernel_rfl) (fun K hK => ?_) (by kernel_rfl); simp -implicitDefEqProofs only [go_sem, ↓reduceIte, Nat.reduceEqDiff, Nat.reduceAdd, Nat.reduceLT, Nat.reduceLeDiff, reduceCtorEq, Int.toNat_natCast, e0, e3, hA, w1, encA, hWQ, w5, hbQ, hb1Q, wB]
      refine CallD.use (mread_ok g.names [a.p] p.nris p.nok (fun x hx => by rw [List.mem_singleton.1 hx]; exact .inr hchk) (by have := p.nlen; simp; omega) h1' _ Q qv (i * 8) L (show Q < b + 3 by omega) q1' hk6 (hlow _)) body_189 ?_
      rintro _ _ ⟨rfl, rfl⟩
      refine ⟨sub_at _ q1', ?_⟩
      refine Ev ?_
      refine hK _ _ _ ?_; clear hK K
      refine Rk ?_
      refine Bf ?_
      refine AWP.skip ?_
      exact ⟨rfl, rfl, by exact Erf @e0, by exact Erf @e3, by exact Erf @e4, (upd_ne _ _ _ _ hbQ).trans hA, (upd_ne _ _ _ _ hb1Q).trans hR, ⟨(upd_ne _ _ _ _ w5).trans w1, ⟨T, (upd_same _ _ _).trans (congrArg (fun l => some (Blk.mk qv l)) hset), by simp only [List.length_map, List.length_set] at q2 ⊢; exact q2, q3⟩, by rw [List.length_set]; exact w3, w4, w5⟩, fun id hid a1 => (upd_ne _ _ _ _ a1).trans (ho id hid)⟩
    · have hg2 : g' = g := by rw [hg', if_neg hk]
      rw [hg2, hself]
      have hk' : (g.kind = 1) = False := eq_false hk
      refine AWP.seqReg (by kernel_rfl) (fun E K hE hK => ?_); simp -implicitDefEqProofs only [go_sem, ↓reduceIte, Nat.reduceEqDiff, Nat.reduceAdd, Nat.reduceLT, Nat.reduceLeDiff, reduceCtorEq, Int.toNat_natCast, e0, w1, q1', hk0, wB, hk']; refine hK _ _ _ ?_; clear hE hK K E
      refine Bf ?_
      refine AWP.skip ?_
      exact ⟨rfl, rfl, by exact Erf @e0, by exact Erf @e3, by exact Erf @e4, hA, hR, hw.of (ho W hW) (ho Q hQ), fun id hid _ => ho id hid⟩
  clear hw hA hR ho e0 e3 e4 t h1'
  rintro ⟨t, h1', n⟩ ⟨hn3, e0, e3, e4, hA, hR, hw2, ho⟩
  simp only at hn3 e0 e3 e4 hA hR hw2 ho
  subst hn3
  have hw3 := hw2
  obtain ⟨w1, w2, w3, w4, w5⟩ := hw2
  obtain ⟨T, q1, q2, q3⟩ := w2
  have hgl : i < (gs.set i g').length := by omega
  have hge : (gs.set i g')[i] = g' := by simp
  have hpart := gs_at T hgl
  rw [hge] at hpart
  have q1' : h1' Q = some ⟨qv, ((gs.set i g').map encG).flatten.map Cell.p ++ T⟩ := q1
  have hlm : ((gs.set i g').map encG).length = (gs.set i g').length := List.length_map _
  have hlL : (((gs.set i g').map encG).flatten.map Cell.p ++ T).length = (gs.set i g').length * 8 + T.length := by rw [List.length_append, List.length_map, okEs_len (okEs_gs _), hlm]
  generalize hL : ((gs.set i g').map encG).flatten.map Cell.p ++ T = L at q1' hpart hlL
  have hp2 := gs_two hpart
  simp only [encG, List.map_cons, List.map_nil, List.drop, List.take, hnow] at hp2
  refine AWP.known (fun hnew => ?_)
  simp only at hnew
  have hG : lookG g a = (g', match getV g.now a.p with | none => errR 4 | some k => if a.kind = 7 then ⟨0, 0, k.rank, [], []⟩ else ⟨0, 0, k.rank, k.data, []⟩) := by unfold lookG; rw [if_neg h1, hg']; cases getV g.now a.p <;> rfl
  rw [hG]
  have fin : ∀ (t : Nat → AV) (hh : Heap) (n : Nat) (rp : Rp) (r0 : AV), frzV hh b r0 (RpV rp) → t 4 = .one (.ptr (b + 1) 0 0) → resA Tryz.prog hh t [.cell 4 44] = some r0 → (∀ id, id < b → hh id = h1' id) →
      Am.Ends Tryz.prog ⟨Tryz.f145.ntmps, b, ι, h, w, x0⟩ Tryz.f145 0 (MR h b W Q qv qc i v log (gs.set i g') rp) ⟨t, hh, n⟩ := by
    intro t hh n rp r0 hf e4 hr ho4
    exact Ends.MR rfl H hW hQ (hw3.of (ho4 W hW) (ho4 Q hQ)) (fun id hid a1 _ => (ho4 id hid).trans (ho id hid a1)) (by rw [show Tryz.f145.results.toList = [.cell 4 44] from rfl]; exact hr) hf
  cases hgv : getV g.now a.p with
  | none =>
    refine AWP.seqRegS [] [] (h1') (Sub.refl _) mixed (by kernel_rfl) (by kernel_rfl) (fun K hK => ?_) (by kernel_rfl); simp -implicitDefEqProofs only [go_sem, ↓reduceIte, Nat.reduceEqDiff, Nat.reduceAdd, Nat.reduceLT, Nat.reduceLeDiff, reduceCtorEq, Int.toNat_natCast, e0, e3, hA, w1, q1', encA, wB, hp2]
    refine ⟨by omega, ?_⟩
    refine CallD.use (mget_ok g.now a.p p.ris p.size p.chk (.inr hchk) h1' _) body_190 ?_
    rintro r2 h2 ⟨ho2, hr2⟩
    rw [hgv] at hr2
    subst hr2
    refine ⟨sub_lo hnew ho2, ?_⟩
    refine Ev ?_
    refine hK _ _ _ ?_; clear hK K
    have ho3 : ∀ id, id < b + 3 → h2 id = h1' id := ho2
    have hR2 : h2 (b + 1) = some ⟨0, [.p (.v (.int .i64 0)), .p (.v (.int .u64 0)), .p (.v (.float .f64 0)), .p (.v (.slice none 0 0)), .p (.v (.slice none 0 0))]⟩ := (ho3 _ (by omega)).trans hR
    refine AWP.seq ?_
    refine AWP.block ?_
    refine Rk ?_
    refine Bt ?_
    refine Rkf (jn2 @e4 @hR2) ?_
    refine AWP.ret ?_
    refine Ev ?_
    exact fin _ _ _ _ _ frz_rpZ (by exact Erf @e4) (by exact Erf @e4) (fun id hid => (upd_ne _ _ _ _ (by omega)).trans (ho3 id (by omega)))
  | some k =>
    refine AWP.seqRegS [] [] (h1') (Sub.refl _) mixed (by kernel_rfl) (by kernel_rfl) (fun K hK => ?_) (by kernel_rfl); simp -implicitDefEqProofs only [go_sem, ↓reduceIte, Nat.reduceEqDiff, Nat.reduceAdd, Nat.reduceLT, Nat.reduceLeDiff, reduceCtorEq, Int.toNat_natCast, e0, e3, hA, w1, q1', encA, wB, hp2]
    refine ⟨by omega, ?_⟩
    refine CallD.use (mget_ok g.now a.p p.ris p.size p.chk (.inr hchk) h1' _) body_190 ?_
    rintro r2 h2 ⟨ho2, hr2⟩
    rw [hgv] at hr2
    obtain ⟨rfl, hb2⟩ := hr2
    refine ⟨sub_lo hnew ho2, ?_⟩
    refine Ev ?_
    refine hK _ _ _ ?_; clear hK K
    have ho3 : ∀ id, id < b + 3 → h2 id = h1' id := ho2
    have hb3 : h2 (b + 3) = some ⟨0, (encK k).map .p⟩ := hb2
    have hR2 : h2 (b + 1) = some ⟨0, [.p (.v (.int .i64 0)), .p (.v (.int .u64 0)), .p (.v (.float .f64 0)), .p (.v (.slice none 0 0)), .p (.v (.slice none 0 0))]⟩ := (ho3 _ (by omega)).trans hR
    have hA2 : h2 b = some ⟨0, (encA a).map .p⟩ := (ho3 _ (by omega)).trans hA
    refine AWP.seq ?_
    refine AWP.block ?_
    refine AWP.seqReg (by kernel_rfl) (fun E K hE hK => ?_); simp -implicitDefEqProofs only [go_sem, ↓reduceIte, Nat.reduceEqDiff, Nat.reduceAdd, Nat.reduceLT, Nat.reduceLeDiff, reduceCtorEq, Int.toNat_natCast, hb3, encK]; refine hK _ _ _ ?_; clear hE hK K E
    refine Bf ?_
    by_cases h7 : a.kind = 7
    · have h7' : (a.kind = 7) = True := eq_true h7
      refine AWP.seqReg (by kernel_rfl) (fun E K hE hK => ?_); simp -implicitDefEqProofs only [go_sem, ↓reduceIte, Nat.reduceEqDiff, Nat.reduceAdd, Nat.reduceLT, Nat.reduceLeDiff, reduceCtorEq, Int.toNat_natCast, e3, hA2, encA, h7']; refine hK _ _ _ ?_; clear hE hK K E
      refine Bt ?_
      refine AWP.seqReg (by kernel_rfl) (fun E K hE hK => ?_); simp -implicitDefEqProofs only [go_sem, ↓reduceIte, Nat.reduceEqDiff, Nat.reduceAdd, Nat.reduceLT, Nat.reduceLeDiff, reduceCtorEq, Int.toNat_natCast, e4, hR2, hb3, encK]; refine hK _ _ _ ?_; clear hE hK K E
      refine AWP.ret ?_
      refine Ev ?_
      simp only [if_pos h7]
      exact fin _ _ _ _ _ frz_rp (by exact Erf @e4) (by exact Erf @e4) (fun id hid => (upd_ne _ _ _ _ (by omega)).trans (ho3 id (by omega)))
    · have h7' : (a.kind = 7) = False := eq_false h7
      refine AWP.seqReg (by kernel_rfl) (fun E K hE hK => ?_); simp -implicitDefEqProofs only [go_sem, ↓reduceIte, Nat.reduceEqDiff, Nat.reduceAdd, Nat.reduceLT, Nat.reduceLeDiff, reduceCtorEq, Int.toNat_natCast, e3, hA2, encA, h7']; refine hK _ _ _ ?_; clear hE hK K E
      refine Bf ?_
      refine AWP.skip ?_
      refine Ev ?_
      refine AWP.seqRegD [] [] [b + 1] mixed (by kernel_rfl) (by kernel_rfl) (fun K hK => .inl ?_) (by kernel_rfl); simp -implicitDefEqProofs only [go_sem, ↓reduceIte, Nat.reduceEqDiff, Nat.reduceAdd, Nat.reduceLT, Nat.reduceLeDiff, reduceCtorEq, Int.toNat_natCast, e4, hR2, hb3, encK]
      refine ⟨sub_at _ hR2, ?_⟩
      refine hK _ _ _ ?_; clear hK K
      refine AWP.ret ?_
      refine Ev ?_
      simp only [if_neg h7]
      exact fin _ _ _ _ _ frz_rpD (by exact Erf @e4) (by exact Erf @e4) (fun id hid => (upd_ne _ _ _ _ (by omega)).trans (ho3 id (by omega)))
end Go.Proofs.YtihgnpboabpchaaGreatDoor
namespace Go.Proofs.YtihgnpboabpchaaGreatDoor
set_option linter.unusedSimpArgs false
set_option linter.unusedVariables false
set_option linter.unnecessarySimpa false
open Go Am
theorem app_st {C : Ctx} {h : Heap} {n : Nat} {K : KT} {id ver cap len m : Nat} {es fs : List (List PD)} {x : AV} (hr : RowAt h id ver cap 1 es) (hes : okEs 1 es) (hfs : okEs 1 fs) (hx : srcA h 1 x = some (m, fs.flatten.map .p)) (hlen : len = es.length) (hm : m = fs.length) (hl : len + m ≤ 1000000)
    (k : ∀ cap' T', (es ++ fs).length * 1 + T'.length = cap' * 1 → lowCs 0 T' = true → K (.one (.win id (ver + 1) 0 (len + m) cap')) (upd h id (rowB (ver + 1) (es ++ fs) T')) n) :
    BiK Tryz.prog C .append [42, 42] [.one (.win id ver 0 len cap), x] h n K := by
  obtain ⟨T, h1, h3, h4⟩ := hr
  have hfl := okEs_len hes
  refine BiK.append_own (e := 9) (sz := 1) (bytes := 16) (m := m) (xs := fs.flatten.map .p) (blk := rowB ver es T) ty_slE_42 ty_tsz_9 ty_tzero_9 rfl ty_tby_9 ty_isIntT_42 h1 rfl
    (by rw [rowB]; simp only [List.length_append, List.length_map, hfl]; omega) hx (okEs_flat hfs _) (by omega) (by decide) (by omega) (fun cap' j q1 q2 => ?_)
  have e := row_push (sz := 1) (ver := ver + 1) (len := len) (es := es) (fs := fs) (T := T) hes hlen j
  rw [show (rowB ver es T).cells = es.flatten.map .p ++ T from rfl, e]
  exact k cap' _ (by rw [List.length_replicate, List.length_append]; omega) (lowCs_junk _ _)
end Go.Proofs.YtihgnpboabpchaaGreatDoor
namespace Go.Proofs.YtihgnpboabpchaaGreatDoor
set_option linter.unusedSimpArgs false
set_option linter.unusedVariables false
set_option linter.unnecessarySimpa false
open Go Am
set_option maxRecDepth 100000
theorem AWP.pad {P : Program} {C : Ctx} {Q : Exit → St → Prop} {c : Code} {t : Nat → AV} {h : Heap} {n : Nat} (K : AWP P C c Q ⟨t, upd h (C.b + n) ⟨0, []⟩, n + 1⟩) : AWP P C c Q ⟨t, h, n⟩ := .weak (fun _ _ _ I => ⟨_, I.virt.2⟩) K
theorem gs_dirs {gs : List Gs} (T : List Cell) {i : Nat} (hi : i < gs.length) {g : Gs} (hg : gs[i] = g) (ns : List S) :
    List.take (i * 8 + 7) ((gs.map encG).flatten.map Cell.p ++ T) ++ .p (.sl 1 (ns.map encS)) :: List.drop (i * 8 + 8) ((gs.map encG).flatten.map Cell.p ++ T) = ((gs.set i { g with dirs := ns }).map encG).flatten.map Cell.p ++ T := by
  have hpart := gs_at T hi
  rw [hg] at hpart
  rw [← gs_set T hi { g with dirs := ns }]
  have hlL : ((gs.map encG).flatten.map Cell.p ++ T).length = gs.length * 8 + T.length := by rw [List.length_append, List.length_map, okEs_len (okEs_gs gs), List.length_map]
  generalize (gs.map encG).flatten.map Cell.p ++ T = L at hpart hlL
  obtain ⟨A, D, e, e2, e3, e4⟩ := row_split hpart (by omega)
  rw [← e3, ← e4, ← e2, e, List.take_length_add_append]
  simp [encG]
def lsI (l : List Kn) (f : Kn → Bool) (h0 : Heap) (b : Nat) (a : Ac) (i : Nat) (st : St) : Prop :=
  (∃ ver cap, st.h (b + 1) = some ⟨0, [.p (.v (.int .i64 0)), .p (.v (.int .u64 0)), .p (.v (.float .f64 0)), .p (.v (.slice none 0 0)), .win (b + 3) ver 0 ((l.take i).filter f).length cap]⟩ ∧ RowAt st.h (b + 3) ver cap 1 (((l.take i).filter f).map fun k => encS k.name)) ∧
  st.h b = some ⟨0, (encA a).map .p⟩ ∧ (∀ id, id < b → st.h id = h0 id) ∧ st.t 3 = .one (.ptr b 0 0) ∧ st.t 4 = .one (.ptr (b + 1) 0 0) ∧ st.t 63 = .one (.p (.sl 3 (l.map encK))) ∧ st.t 64 = IntV l.length ∧ st.t 65 = IntV (i : Nat)
theorem mList_ok (a : Ac) (g : Gs) (p : GPre g) (dris : Ris nmS g.dirs) (dok : ∀ x ∈ g.dirs, okF x) (dlen : g.dirs.length < 1024) (h : Heap) (b W Q qv qc i : Nat) (v : Vw) (log : List Dn) (gs : List Gs) (hW : W < b) (hQ : Q < b) (hw : WB h W Q qv qc i v log gs) (hg : gs[i]? = some g) :
    ACalls Tryz.prog 146 [.one (.ptr W 0 0), AcV a] h b 0 (MR h b W Q qv qc i v log (gs.set i (listG g a).1) (listG g a).2) := by
  refine ACalls.enter Tryz.func146 rfl (by simp [Tryz.ntmps146]) (fun ι w hn H => ?_)
  have hself := gs_self hg
  refine Rk ?_
  by_cases hbad : a.p ≠ [] ∧ chkN a.p ≠ 0
  · have hp' : (a.p = []) = False := eq_false hbad.1
    have hc : cleanX' [a.p] = false := by simp [cleanX', hbad.2]
    refine AWP.seq ?_
    refine AWP.seqReg (by kernel_rfl) (fun E K hE hK => ?_); simp -implicitDefEqProofs only [go_sem, ↓reduceIte, Nat.reduceEqDiff, Nat.reduceAdd, Nat.reduceLT, Nat.reduceLeDiff, reduceCtorEq, Int.toNat_natCast, encA, mkS_list, hp', decide_false, Bool.not_false, true_implies]
    refine Us (mcleanO_ok [a.p] (by simp) (upd_same _ _ _) 1 rfl _) body_183 ?_
    refine Evf @hc ?_
    refine hK _ _ _ ?_; clear hE hK K E
    refine Bt ?_
    refine Rk ?_
    refine AWP.ret ?_
    refine Ev ?_
    rw [show listG g a = (g, errR 1) by unfold listG; rw [if_pos hbad]]
    simp only [hself]
    exact Ends.MR rfl H hW hQ (hw.of (by exact Ecf (jn3 (show ¬ W = b by omega) (show ¬ W = b + 1 by omega) (show ¬ W = b + 2 by omega))) (by exact Ecf (jn3 (show ¬ Q = b by omega) (show ¬ Q = b + 1 by omega) (show ¬ Q = b + 2 by omega)))) (fun id (hid : id < b) _ _ => by exact Ecf (jn3 (show ¬ id = b by omega) (show ¬ id = b + 1 by omega) (show ¬ id = b + 2 by omega))) (by rw [show Tryz.f146.results.toList = [.cell 4 44] from rfl]; exact Er) frz_rpZ
  refine AWP.cut (fun st => st.n = 3 ∧ st.t 0 = .one (.ptr W 0 0) ∧ st.t 3 = .one (.ptr b 0 0) ∧ st.t 4 = .one (.ptr (b + 1) 0 0) ∧ st.h b = some ⟨0, (encA a).map .p⟩ ∧ st.h (b + 1) = some ⟨0, [.p (.v (.int .i64 0)), .p (.v (.int .u64 0)), .p (.v (.float .f64 0)), .p (.v (.slice none 0 0)), .p (.v (.slice none 0 0))]⟩ ∧ ∀ id, id < b → st.h id = h id) ?_ ?_
  · by_cases hp : a.p = []
    · have hp' : (a.p = []) = True := eq_true hp
      refine AWP.pad ?_
      refine AWP.seqReg (by kernel_rfl) (fun E K hE hK => ?_); simp -implicitDefEqProofs only [go_sem, ↓reduceIte, Nat.reduceEqDiff, Nat.reduceAdd, Nat.reduceLT, Nat.reduceLeDiff, reduceCtorEq, Int.toNat_natCast, encA, mkS_list, hp', decide_true, Bool.not_true, Bool.false_eq_true, false_implies, true_implies, true_and]
      refine hK _ _ _ ?_; clear hE hK K E
      refine Bf ?_
      refine AWP.skip ?_
      exact ⟨rfl, rfl, by exact Er, by exact Er, by exact Er, by (first | (simp -implicitDefEqProofs only [go_sem, ↓reduceIte, Nat.reduceEqDiff, Nat.reduceAdd, Nat.reduceLT, Nat.reduceLeDiff, reduceCtorEq, Int.toNat_natCast, encA]; first | done | rfl) | rfl), by exact Er, Ou⟩
    · have hp' : (a.p = []) = False := eq_false hp
      have h1 : chkN a.p = 0 := by
        by_cases x : chkN a.p = 0
        · exact x
        · exact absurd ⟨hp, x⟩ hbad
      have hc : cleanX' [a.p] = true := by simp [cleanX', h1]
      refine AWP.seqReg (by kernel_rfl) (fun E K hE hK => ?_); simp -implicitDefEqProofs only [go_sem, ↓reduceIte, Nat.reduceEqDiff, Nat.reduceAdd, Nat.reduceLT, Nat.reduceLeDiff, reduceCtorEq, Int.toNat_natCast, encA, mkS_list, hp', decide_false, Bool.not_false, true_implies]
      refine Us (mcleanO_ok [a.p] (by simp) (upd_same _ _ _) 1 rfl _) body_183 ?_
      refine Evf @hc ?_
      refine hK _ _ _ ?_; clear hE hK K E
      refine Bf ?_
      refine AWP.skip ?_
      exact ⟨rfl, rfl, by exact Er, by exact Er, by exact Er, by (first | (simp -implicitDefEqProofs only [go_sem, ↓reduceIte, Nat.reduceEqDiff, Nat.reduceAdd, Nat.reduceLT, Nat.reduceLeDiff, reduceCtorEq, Int.toNat_natCast, encA]; first | done | rfl) | rfl), by exact Er, Ou⟩
  have hpok : okF a.p := by
    by_cases hp : a.p = []
    · exact .inl hp
    · refine .inr ?_
      by_cases x : chkN a.p = 0
      · exact x
      · exact absurd ⟨hp, x⟩ hbad
  rintro ⟨t, h1', n⟩ ⟨hn1, e0, e3, e4, hA, hR, ho⟩
  simp only at hn1 e0 e3 e4 hA hR ho
  subst hn1
  obtain ⟨g', hg'⟩ : ∃ g' : Gs, g' = if g.kind = 1 then { g with dirs := insN g.dirs a.p } else g := ⟨_, rfl⟩
  have hnow : g'.now = g.now := by rw [hg']; split <;> rfl
  refine AWP.cut (fun st => st.n = 3 ∧ st.t 0 = .one (.ptr W 0 0) ∧ st.t 3 = .one (.ptr b 0 0) ∧ st.t 4 = .one (.ptr (b + 1) 0 0) ∧ st.h b = some ⟨0, (encA a).map .p⟩ ∧ st.h (b + 1) = some ⟨0, [.p (.v (.int .i64 0)), .p (.v (.int .u64 0)), .p (.v (.float .f64 0)), .p (.v (.slice none 0 0)), .p (.v (.slice none 0 0))]⟩ ∧ WB st.h W Q qv qc i v log (gs.set i g') ∧ ∀ id, id < b → id ≠ Q → st.h id = h id) ?_ ?_
  · obtain ⟨w1, w2, w3, w4, w5⟩ := hw.of (ho W hW) (ho Q hQ)
    obtain ⟨T, q1, q2, q3⟩ := w2
    have hgl : i < gs.length := by omega
    have hge : gs[i] = g := by rw [List.getElem?_eq_getElem hgl] at hg; injection hg
    have hpart := gs_at T hgl
    rw [hge] at hpart
    have hset := gs_dirs T hgl hge (insN g.dirs a.p)
    have hlm : (gs.map encG).length = gs.length := List.length_map _
    have hlL : ((gs.map encG).flatten.map Cell.p ++ T).length = gs.length * 8 + T.length := by rw [List.length_append, List.length_map, okEs_len (okEs_gs gs), hlm]
    have q1' : h1' Q = some ⟨qv, (gs.map encG).flatten.map Cell.p ++ T⟩ := q1
    generalize hL : (gs.map encG).flatten.map Cell.p ++ T = L at q1' hpart hset hlL
    have hk0 : L[i * 8]? = some (.p (.v (.int .i64 g.kind))) := gs_cell hpart 0 (by decide)
    have hk7 : L[i * 8 + 7]? = some (.p (.sl 1 (g.dirs.map encS))) := gs_cell hpart 7 (by decide)
    by_cases hk : g.kind = 1
    · have hg2 : g' = { g with dirs := insN g.dirs a.p } := by rw [hg', if_pos hk]
      rw [← hg2] at hset
      have hbQ : ¬ b = Q := by omega
      have hb1Q : ¬ b + 1 = Q := by omega
      refine AWP.seqReg (by kernel_rfl) (fun E K hE hK => ?_); simp -implicitDefEqProofs only [go_sem, ↓reduceIte, Nat.reduceEqDiff, Nat.reduceAdd, Nat.reduceLT, Nat.reduceLeDiff, reduceCtorEq, Int.toNat_natCast, e0, w1, q1', hk0, wB, hk]; refine hK _ _ _ ?_; clear hE hK K E
      refine Bt ?_
      refine AWP.seqRegD [41] [.tup [ListV (insN g.dirs a.p), IntV 0]] [] mixed (by kernel_rfl) (by kernel_rfl) (fun K hK => .inl ?_) (by kernel_rfl); simp -implicitDefEqProofs only [go_sem, ↓reduceIte, Nat.reduceEqDiff, Nat.reduceAdd, Nat.reduceLT, Nat.reduceLeDiff, reduceCtorEq, Int.toNat_natCast, e0, e3, hA, w1, encA, wB, q1', hk7]
      refine CallP.use (fun _ _ _ => mput_ok g.dirs a.p 1024 dris dlen (by decide) dok hpok _ _) body_194 ?_
      refine Ev ?_
      refine hK _ _ _ ?_; clear hK K
      refine AWP.seq ?_
      refine Rk ?_
      refine Bf ?_
      refine AWP.skip ?_
      refine Ev ?_
      refine AWP.reg (by kernel_rfl) (fun E K hE hK => ?_); simp -implicitDefEqProofs only [go_sem, ↓reduceIte, Nat.reduceEqDiff, Nat.reduceAdd, Nat.reduceLT, Nat.reduceLeDiff, reduceCtorEq, Int.toNat_natCast, e0, w1, q1', wB]
      refine ⟨by omega, ?_⟩
      refine hK _ _ _ ?_; clear hE hK K E
      exact ⟨rfl, rfl, by exact Erf @e0, by exact Erf @e3, by exact Erf @e4, (upd_ne _ _ _ _ hbQ).trans hA, (upd_ne _ _ _ _ hb1Q).trans hR, ⟨(upd_ne _ _ _ _ w5).trans w1, ⟨T, (upd_same _ _ _).trans (congrArg (fun l => some (Blk.mk qv l)) hset), by simp only [List.length_map, List.length_set] at q2 ⊢; exact q2, q3⟩, by rw [List.length_set]; exact w3, w4, w5⟩, fun id hid a1 => (upd_ne _ _ _ _ a1).trans (ho id hid)⟩
    · have hg2 : g' = g := by rw [hg', if_neg hk]
      rw [hg2, hself]
      have hk' : (g.kind = 1) = False := eq_false hk
      refine AWP.seqReg (by kernel_rfl) (fun E K hE hK => ?_); simp -implicitDefEqProofs only [go_sem, ↓reduceIte, Nat.reduceEqDiff, Nat.reduceAdd, Nat.reduceLT, Nat.reduceLeDiff, reduceCtorEq, Int.toNat_natCast, e0, w1, q1', hk0, wB, hk']; refine hK _ _ _ ?_; clear hE hK K E
      refine Bf ?_
      refine AWP.skip ?_
      exact ⟨rfl, rfl, by exact Erf @e0, by exact Erf @e3, by exact Erf @e4, hA, hR, hw.of (ho W hW) (ho Q hQ), fun id hid _ => ho id hid⟩
  clear hw hA hR ho e0 e3 e4 t h1'
  rintro ⟨t, h1', n⟩ ⟨hn3, e0, e3, e4, hA, hR, hw2, ho⟩
  simp only at hn3 e0 e3 e4 hA hR hw2 ho
  subst hn3
  have hw3 := hw2
  obtain ⟨w1, w2, w3, w4, w5⟩ := hw2
  obtain ⟨T, q1, q2, q3⟩ := w2
  have hgl : i < (gs.set i g').length := by omega
  have hge : (gs.set i g')[i] = g' := by simp
  have hpart := gs_at T hgl
  rw [hge] at hpart
  have q1' : h1' Q = some ⟨qv, ((gs.set i g').map encG).flatten.map Cell.p ++ T⟩ := q1
  generalize hL : ((gs.set i g').map encG).flatten.map Cell.p ++ T = L at q1' hpart
  have hk4 : L[i * 8 + 3 + 1]? = some (.p (.sl 3 (g'.now.l.map encK))) := gs_cell hpart 4 (by decide)
  rw [hnow] at hk4
  obtain ⟨l, hl⟩ : ∃ l, l = g.now.l := ⟨_, rfl⟩
  rw [← hl] at hk4
  have hl1 : l.length ≤ 1000000 := by rw [hl]; exact p.size.1
  have hlm : (l.map encK).length = l.length := List.length_map _
  obtain ⟨f, hf⟩ : ∃ f : Kn → Bool, f = fun k => decide ((withinN a.p k.name).2 = 0) && (withinN a.p k.name).1 := ⟨_, rfl⟩
  have hG : listG g a = (g', ⟨0, 0, 0, [], (l.filter f).map nmK⟩) := by unfold listG; rw [if_neg hbad, hg', hl, hf]
  rw [hG]
  have nQ0 : ¬ b = Q := by omega
  have nQ1 : ¬ b + 1 = Q := by omega
  have nW0 : ¬ b = W := by omega
  refine AWP.virtO (b + 1) 4 hR rfl ?_
  have nW1 : ¬ W = b + 1 := by omega
  have nW3 : ¬ W = b + 3 := by omega
  have nQ2 : ¬ Q = b + 1 := by omega
  have nQ3 : ¬ Q = b + 3 := by omega
  refine AWP.seq ?_
  refine AWP.seqReg (by kernel_rfl) (fun E K hE hK => ?_); simp -implicitDefEqProofs only [go_sem, ↓reduceIte, Nat.reduceEqDiff, Nat.reduceAdd, Nat.reduceLT, Nat.reduceLeDiff, reduceCtorEq, Int.toNat_natCast, e0, w1, q1', hk4, wB, nW1, nW3, nQ2, nQ3, hlm]; refine hK _ _ _ ?_; clear hE hK K E
  have hlow0 : ∀ id blk, lowH b h1' id = some blk → ∀ c ∈ blk.cells, lowC b c = true := fun id blk e c hc => by
    unfold lowH at e
    by_cases hid : id < b
    · rw [if_pos hid] at e
      by_cases eQ : id = Q
      · subst eQ
        rw [q1] at e; injection e with e; subst e
        exact lowCs_mem (lowCs_app (lowCs_p _ _) (lowCs_mono (Nat.zero_le _) q3)) c hc
      · rw [ho id hid eQ] at e
        exact H.lowCells id blk e c hc
    · rw [if_neg hid] at e; cases e
  have hlo : ∀ id, id < b → lowH b h1' id = h1' id := fun id hid => by unfold lowH; rw [if_pos hid]
  refine AWP.block ?_
  refine AWP.loopM 4 (fun m st => ∃ i, i ≤ l.length ∧ m = l.length - i ∧ lsI l f (lowH b h1') b a i st) l.length rfl ⟨0, Nat.zero_le _, rfl, ⟨0, 0, by exact Er, [], upd_same _ _ _, by simp, rfl⟩, by exact Ecf @hA, fun id (hid : id < b) => by rw [hlo id hid]; exact Ecf (jn2 (show ¬ id = b + 1 by omega) (show ¬ id = b + 3 by omega)), by exact Erf @e3, by exact Erf @e4, by exact Er, by exact Er, by exact Er⟩ ?_
  clear hR e0 e3 e4 hk4 q1'
  rintro m ⟨t, hh, n⟩ ⟨i', hi, rfl, ⟨ver, cap, hb1, hrow⟩, hA2, ho2, e3, e4, e63, e64, e65⟩ hn1
  simp only at hb1 hrow hA2 ho2 e3 e4 e63 e64 e65 hn1
  subst hn1
  refine Rkf (jn2 @e64 @e65) ?_
  refine AWP.seq ?_
  by_cases hlt : (i' : Int) < l.length
  · have hw1 : IntKind.i64.wrap ((i' : Int) + 1) = ((i' + 1 : Nat) : Int) := by rw [wrap_i64 (by omega) (by omega)]; rfl
    have hi2 : i' < l.length := by omega
    have hge := encK_getD l i' hi2
    obtain ⟨k, hk⟩ : ∃ k, l[i'] = k := ⟨_, rfl⟩
    rw [hk] at hge
    have htk : l.take (i' + 1) = l.take i' ++ [k] := by rw [List.take_succ_eq_append_getElem hi2, hk]
    refine Btf @hlt ?_
    refine AWP.skip ?_
    refine Ev ?_
    refine AWP.seq ?_
    refine AWP.block ?_
    refine Rgf (jn5 @e63 @e65 @hlm @hlt @hge) (fun E K hE hK => ?_)
    refine ⟨by omega, ?_⟩
    refine hK _ _ _ ?_; clear hE hK K E
    obtain ⟨wr, hwr⟩ : ∃ r, withinN (bl (mkS a.p)) (bl (mkS k.name)) = r := ⟨_, rfl⟩
    obtain ⟨bx, ey⟩ := wr
    have hfk : f k = (decide (ey = 0) && bx) := by
      have e : withinN a.p k.name = (bx, ey) := hwr
      rw [hf]; simp only [e]
    refine AWP.seqReg (by kernel_rfl) (fun E K hE hK => ?_); simp -implicitDefEqProofs only [go_sem, ↓reduceIte, Nat.reduceEqDiff, Nat.reduceAdd, Nat.reduceLT, Nat.reduceLeDiff, reduceCtorEq, Int.toNat_natCast, e3, hA2, encA]
    refine Us (Within_ok (mkS a.p) (mkS k.name) _ _) body_69 ?_
    refine Evf @hwr ?_
    refine hK _ _ _ ?_; clear hE hK K E
    by_cases hy : ey = 0
    · subst hy
      cases bx with
      | false =>
        have hes : (l.take (i' + 1)).filter f = (l.take i').filter f := by rw [htk, List.filter_append]; simp [hfk]
        refine Rk ?_
        refine Bf ?_
        refine AWP.skip ?_
        refine Ev ?_
        refine Raf (jn2 @e65 @hw1) (fun E K hE hK => ?_); refine hK _ _ _ ?_; clear hE hK K E
        refine ⟨(by decide : 4 ≤ 5), l.length - (i' + 1), by omega, i' + 1, by omega, rfl, ⟨ver, cap, ?_, ?_⟩, cutH_same (Nat.lt_add_of_pos_right (by decide)) (by exact Erf @hA2) (by simp [lowCs, lowC]), cutH_outer (Nat.le_add_right _ _) (fun id (hid : id < b) => by refine Evf (show ¬ id = b + 4 by omega) ?_; exact ho2 id hid) hlow0, by refine Evf @e3 ?_; exact cutV_ptr (Nat.lt_add_of_pos_right (by decide)), by refine Evf @e4 ?_; exact cutV_ptr (Nat.add_lt_add_left (by decide) _), by exact Ecf @e63, by exact Ecf @e64, by exact Er⟩
        · rw [hes]; exact cutH_same (Nat.add_lt_add_left (by decide) _) (by exact Erf @hb1) (by simp [lowCs, lowC])
        · rw [hes]; exact (hrow.ne (by omega)).cut (Nat.add_lt_add_left (by decide) _)
      | true =>
        have hes : (l.take (i' + 1)).filter f = (l.take i').filter f ++ [k] := by rw [htk, List.filter_append]; simp [hfk]
        refine Rk ?_
        refine Bt ?_
        refine AWP.reg (by kernel_rfl) (fun E K hE hK => ?_); simp -implicitDefEqProofs only [go_sem, ↓reduceIte, Nat.reduceEqDiff, Nat.reduceAdd, Nat.reduceLT, Nat.reduceLeDiff, reduceCtorEq, Int.toNat_natCast, e4, hb1, encK]
        have hes1 : okEs 1 (((l.take i').filter f).map fun k => encS k.name) := fun e he => by
          obtain ⟨x, _, rfl⟩ := List.mem_map.1 he
          exact ⟨rfl, fun d hd => by simp at hd; subst hd; rfl⟩
        have hes2 : okEs 1 [encS k.name] := fun e he => by
          rw [List.mem_singleton.1 he]
          exact ⟨rfl, fun d hd => by simp at hd; subst hd; rfl⟩
        have hfl : ((l.take i').filter f).length ≤ i' := Nat.le_trans (List.length_filter_le _ _) (by rw [List.length_take]; omega)
        refine BiR.of ?_
        refine app_st (m := 1) ((hrow.ne (by omega)).ne (by omega)) hes1 hes2 (srcA_row (sz := 1) (m := 1) (es := [encS k.name]) (T := []) 0 (upd_same _ _ _) hes2 (by simp) (.inl rfl)) (by rw [List.length_map]) rfl (by omega) (fun cap' T' z1 z2 => ?_)
        refine Evf (jn2 @e4 @hb1) ?_
        refine hK _ _ _ ?_; clear hE hK K E
        refine Raf (jn2 @e65 @hw1) (fun E K hE hK => ?_); refine hK _ _ _ ?_; clear hE hK K E
        refine ⟨(by decide : 4 ≤ 6), l.length - (i' + 1), by omega, i' + 1, by omega, rfl, ⟨ver + 1, cap', ?_, ?_⟩, cutH_same (Nat.lt_add_of_pos_right (by decide)) (by exact Erf @hA2) (by simp [lowCs, lowC]), cutH_outer (Nat.le_add_right _ _) (fun id (hid : id < b) => by refine Evf (jn4 (show ¬ id = b + 1 by omega) (show ¬ id = b + 3 by omega) (show ¬ id = b + 4 by omega) (show ¬ id = b + 5 by omega)) ?_; exact ho2 id hid) hlow0, by refine Evf @e3 ?_; exact cutV_ptr (Nat.lt_add_of_pos_right (by decide)), by refine Evf @e4 ?_; exact cutV_ptr (Nat.add_lt_add_left (by decide) _), by exact Ecf @e63, by exact Ecf @e64, by exact Er⟩
        · rw [hes, List.length_append]; exact cutH_same (Nat.add_lt_add_left (by decide) _) (by exact Er) (by simp [lowCs, lowC])
        · rw [hes, List.map_append]
          exact (RowAt.ne (RowAt.new z1 z2) (by omega)).cut (Nat.add_lt_add_left (by decide) _)
    · have hy' : (ey = 0) = False := eq_false hy
      have hes : (l.take (i' + 1)).filter f = (l.take i').filter f := by rw [htk, List.filter_append]; simp [hfk, hy]
      refine Rkf @hy' ?_
      refine Bf ?_
      refine AWP.skip ?_
      refine Ev ?_
      refine Raf (jn2 @e65 @hw1) (fun E K hE hK => ?_); refine hK _ _ _ ?_; clear hE hK K E
      refine ⟨(by decide : 4 ≤ 5), l.length - (i' + 1), by omega, i' + 1, by omega, rfl, ⟨ver, cap, ?_, ?_⟩, cutH_same (Nat.lt_add_of_pos_right (by decide)) (by exact Erf @hA2) (by simp [lowCs, lowC]), cutH_outer (Nat.le_add_right _ _) (fun id (hid : id < b) => by refine Evf (show ¬ id = b + 4 by omega) ?_; exact ho2 id hid) hlow0, by refine Evf @e3 ?_; exact cutV_ptr (Nat.lt_add_of_pos_right (by decide)), by refine Evf @e4 ?_; exact cutV_ptr (Nat.add_lt_add_left (by decide) _), by exact Ecf @e63, by exact Ecf @e64, by exact Er⟩
      · rw [hes]; exact cutH_same (Nat.add_lt_add_left (by decide) _) (by exact Erf @hb1) (by simp [lowCs, lowC])
      · rw [hes]; exact (hrow.ne (by omega)).cut (Nat.add_lt_add_left (by decide) _)
  · refine Bff @hlt ?_
    refine AWP.exit ?_
    refine Ev ?_
    have hil : i' = l.length := by omega
    subst hil
    rw [List.take_length] at hb1 hrow
    have hel : ((l.filter f).map fun k => encS k.name).length = (l.filter f).length := List.length_map _
    refine AWP.frzAt (b + 1) 4 hb1 rfl hrow (fun e he => by
      obtain ⟨x, _, rfl⟩ := List.mem_map.1 he
      exact ⟨rfl, fun d hd => by simp at hd; subst hd; rfl⟩) hel (by omega) ?_
    refine AWP.nilAt (b + 1) 3 1 (upd_same _ _ _) rfl ?_
    rw [upd_twice]
    refine Am.AWP.genT (fun st => st.n = 4 ∧ st.t 4 = .one (.ptr (b + 1) 0 0) ∧ st.h (b + 1) = some ⟨0, [.p (.v (.int .i64 0)), .p (.v (.int .u64 0)), .p (.v (.float .f64 0)), .p (.sl 1 []), .p (.sl 1 (((l.filter f).map nmK).map encS))]⟩ ∧ ∀ id, id < b → st.h id = h1' id) ⟨rfl, by exact Erf @e4, (upd_same _ _ _).trans (by rw [List.map_map]; rfl), fun id (hid : id < b) => (upd_ne _ _ _ _ (by omega)).trans ((delH_ne _ _ _ (by omega)).trans ((ho2 id hid).trans (hlo id hid)))⟩ ?_
    rintro ⟨t, h2, n⟩ ⟨hn1, e4, hR2, ho4⟩
    simp only at hn1 e4 hR2 ho4
    subst hn1
    refine Rkf (jn2 @e4 @hR2) ?_
    refine AWP.ret ?_
    refine Ev ?_
    refine Ends.MR rfl H hW hQ (hw3.of ((upd_ne _ _ _ _ (by omega)).trans (ho4 W hW)) ((upd_ne _ _ _ _ (by omega)).trans (ho4 Q hQ))) (fun id hid a1 _ => (upd_ne _ _ _ _ (by omega)).trans ((ho4 id hid).trans (ho id hid a1))) (by rw [show Tryz.f146.results.toList = [.cell 4 44] from rfl]; exact Erf @e4) (r0 := RpV ⟨0, 0, 0, [], (l.filter f).map nmK⟩) (frz_rpS _)
end Go.Proofs.YtihgnpboabpchaaGreatDoor
namespace Go.Proofs.YtihgnpboabpchaaGreatDoor
set_option linter.unusedSimpArgs false
set_option linter.unusedVariables false
set_option linter.unnecessarySimpa false
open Go Am
set_option maxRecDepth 100000
structure CPre (log : List Dn) (v : Vw) (g : Gs) : Prop where
  sz : sizeD log
  len : log.length ≤ 100000
  nl : g.names.length ≤ 1000000
  dl : g.dirs.length ≤ 1000000
  wl : g.writes.length ≤ 1000
  vsz : sizeV v.l
  vris : Ris nmK v.l
  vchk : ∀ x ∈ v.l, chkN x.name = 0
  vl : v.l.length + g.writes.length ≤ 900000
  vg : IntKind.u64.wrap (v.gen + 1) = v.gen + 1
def mgL (now : Vw) (ns : List S) (l : List Kn) : List Kn := ns.foldl (fun l p => setK nmK p (getV now p) l) l
theorem mgL_snoc (now : Vw) (ns : List S) (p : S) (l : List Kn) : mgL now (ns ++ [p]) l = setK nmK p (getV now p) (mgL now ns l) := by simp [mgL]
structure MgOK (l : List Kn) (n : Nat) : Prop where
  ris : Ris nmK l
  size : sizeV l
  chk : ∀ x ∈ l, chkN x.name = 0
  len : l.length ≤ n
theorem mgL_ok {g : Gs} (p : GPre g) : ∀ (ns : List S) (l : List Kn) (n : Nat), MgOK l n → n + ns.length ≤ 900000 → MgOK (mgL g.now ns l) (n + ns.length) := by
  intro ns
  induction ns with
  | nil => intro l n h _; exact h
  | cons q ns ih =>
    intro l n h hn
    rw [List.length_cons] at hn ⊢
    have hk : ∀ x, getV g.now q = some x → chkN x.name = 0 ∧ x.data.length ≤ 1000000 ∧ x.name = q := fun x e => ⟨p.chk x (getK_mem e).1, p.size.2 x (getK_mem e).1, (getK_mem e).2⟩
    have := ih (setK nmK q (getV g.now q) l) (n + 1) ⟨h.ris.set (fun x e => (hk x e).2.2), set_size h.size (by have := h.len; omega) (fun x e => (hk x e).2.1), set_chk h.chk (fun x e => (hk x e).1), by have := set_len (nm := nmK) (p := q) (k := getV g.now q) (l := l); have := h.len; omega⟩ (by omega)
    rw [show n + (ns.length + 1) = n + 1 + ns.length by omega]
    exact this
def cmI (v : Vw) (g : Gs) (h0 : Heap) (b W i : Nat) (st : St) : Prop :=
  (∃ ver cap, st.h (b + 4) = some ⟨0, [.p (.v (.int .u64 v.gen)), .win (b + 3) ver 0 (mgL g.now (g.writes.take i) v.l).length cap]⟩ ∧ RowAt st.h (b + 3) ver cap 3 ((mgL g.now (g.writes.take i) v.l).map encK)) ∧
  st.h (b + 1) = some ⟨0, [.p (.v (.int .i64 0)), .p (.v (.int .u64 0)), .p (.v (.float .f64 0)), .p (.v (.slice none 0 0)), .p (.v (.slice none 0 0))]⟩ ∧ st.h (b + 2) = some ⟨0, (encG g).map .p⟩ ∧ (∀ id, id < b → st.h id = h0 id) ∧
  st.t 0 = .one (.ptr W 0 0) ∧ st.t 4 = .one (.ptr (b + 1) 0 0) ∧ st.t 5 = .one (.ptr (b + 2) 0 0) ∧ st.t 8 = .one (.ptr (b + 4) 0 0) ∧ st.t 61 = ListV g.writes ∧ st.t 62 = IntV g.writes.length ∧ st.t 63 = IntV (i : Nat)
theorem mCommit_ok (a : Ac) (g : Gs) (p : GPre g) (v : Vw) (log : List Dn) (c : CPre log v g) (h : Heap) (b W Q qv qc i : Nat) (gs : List Gs) (hW : W < b) (hQ : Q < b) (hw : WB h W Q qv qc i v log gs) (hg : gs[i]? = some g) :
    ACalls Tryz.prog 144 [.one (.ptr W 0 0), AcV a] h b 0 (MR h b W Q qv qc i (comG v log g).1 (comG v log g).2.1 (gs.set i zG) (comG v log g).2.2) := by
  refine ACalls.enter Tryz.func144 rfl (by simp [Tryz.ntmps144]) (fun ι w hn H => ?_)
  obtain ⟨w1, w2, w3, w4, w5⟩ := hw
  obtain ⟨T, q1, q2, q3⟩ := w2
  have hgl : i < gs.length := by omega
  have hge : gs[i] = g := by rw [List.getElem?_eq_getElem hgl] at hg; injection hg
  have hpart := gs_at T hgl
  rw [hge] at hpart
  have hset := gs_set T hgl zG
  have hlm : (gs.map encG).length = gs.length := List.length_map _
  have hlL : ((gs.map encG).flatten.map Cell.p ++ T).length = gs.length * 8 + T.length := by rw [List.length_append, List.length_map, okEs_len (okEs_gs gs), hlm]
  have q1' : h Q = some ⟨qv, (gs.map encG).flatten.map Cell.p ++ T⟩ := q1
  have hWQ : ¬ Q = W := fun e => w5 e.symm
  generalize hL : (gs.map encG).flatten.map Cell.p ++ T = L at q1' hset hpart hlL
  have nW0 : ¬ W = b := by omega
  have nW1 : ¬ W = b + 1 := by omega
  have nW2 : ¬ W = b + 2 := by omega
  have nQ0 : ¬ Q = b := by omega
  have nQ1 : ¬ Q = b + 1 := by omega
  have nQ2 : ¬ Q = b + 2 := by omega
  have nQ1' : ¬ b + 1 = Q := by omega
  have nQ2' : ¬ b + 2 = Q := by omega
  refine Rk ?_
  refine AWP.seqReg (by kernel_rfl) (fun E K hE hK => ?_); simp -implicitDefEqProofs only [go_sem, ↓reduceIte, Nat.reduceEqDiff, Nat.reduceAdd, Nat.reduceLT, Nat.reduceLeDiff, reduceCtorEq, Int.toNat_natCast, w1, q1', hpart, nW0, nQ0, nW1, nQ1, wB]
  refine ⟨by omega, ?_⟩
  refine hK _ _ _ ?_; clear hE hK K E
  refine AWP.seqReg (by kernel_rfl) (fun E K hE hK => ?_); simp -implicitDefEqProofs only [go_sem, ↓reduceIte, Nat.reduceEqDiff, Nat.reduceAdd, Nat.reduceLT, Nat.reduceLeDiff, reduceCtorEq, Int.toNat_natCast, w1, q1', nW0, nQ0, nW1, nQ1, nW2, nQ2, wB]
  refine ⟨by omega, ?_⟩
  refine hK _ _ _ ?_; clear hE hK K E
  refine AWP.nilG5 Q (upd_same _ _ _) ?_
  rw [upd_twice]
  refine Am.AWP.genT (fun st => st.n = 3 ∧ st.t 0 = .one (.ptr W 0 0) ∧ st.t 4 = .one (.ptr (b + 1) 0 0) ∧ st.t 5 = .one (.ptr (b + 2) 0 0) ∧ st.h (b + 1) = some ⟨0, [.p (.v (.int .i64 0)), .p (.v (.int .u64 0)), .p (.v (.float .f64 0)), .p (.v (.slice none 0 0)), .p (.v (.slice none 0 0))]⟩ ∧ st.h (b + 2) = some ⟨0, (encG g).map .p⟩ ∧ WB st.h W Q qv qc i v log (gs.set i zG) ∧ ∀ id, id < b → id ≠ Q → st.h id = h id) ⟨rfl, by exact Er, by exact Er, by exact Er, by exact Erf (jn2 @nQ1 @nQ1'), by exact Erf @nQ2', ⟨(upd_ne _ _ _ _ w5).trans (by exact Erf (jn4 @nW0 @nW1 @nW2 @w1)), ⟨T, (upd_same _ _ _).trans (by rw [rowB, ← hset]; rfl), by simp only [List.length_map, List.length_set] at q2 ⊢; exact q2, q3⟩, by rw [List.length_set]; exact w3, w4, w5⟩, fun id (hid : id < b) a1 => by exact Ecf (jn4 @a1 (show ¬ id = b by omega) (show ¬ id = b + 1 by omega) (show ¬ id = b + 2 by omega))⟩ ?_
  clear hset hpart q1' hL hlL w1 q1 q2 q3 w3 T
  rintro ⟨t, h1, n⟩ ⟨hn1, e0, e4, e5, hR, hG, hw2, ho⟩
  simp only at hn1 e0 e4 e5 hR hG hw2 ho
  subst hn1
  have hw3 := hw2
  obtain ⟨w1, w2, w3, w4, w5'⟩ := hw2
  obtain ⟨cr, hcr⟩ : ∃ r, clashR log g.base.gen g.names g.dirs = r := ⟨_, rfl⟩
  obtain ⟨cg, ce⟩ := cr
  refine AWP.seq ?_
  refine AWP.seqRegD [36] [.tup [U64V (clashR log g.base.gen g.names g.dirs).1, IntV (clashR log g.base.gen g.names g.dirs).2]] [] mixed (by kernel_rfl) (by kernel_rfl) (fun K hK => .inl ?_) (by kernel_rfl); simp -implicitDefEqProofs only [go_sem, ↓reduceIte, Nat.reduceEqDiff, Nat.reduceAdd, Nat.reduceLT, Nat.reduceLeDiff, reduceCtorEq, Int.toNat_natCast, e0, e5, w1, hG, encG, wB]
  refine CallP.use (fun _ _ _ => vClash_ok log g.base.gen g.names g.dirs c.sz c.nl c.dl _ _) body_192 ?_
  refine Evf @hcr ?_
  refine hK _ _ _ ?_; clear hK K
  have fin : ∀ (t : Nat → AV) (hh : Heap) (n : Nat) (rp : Rp) (r0 : AV), comG v log g = (v, log, rp) → frzV hh b r0 (RpV rp) → t 4 = .one (.ptr (b + 1) 0 0) → resA Tryz.prog hh t [.cell 4 44] = some r0 → (∀ id, id < b → hh id = h1 id) →
      Am.Ends Tryz.prog ⟨Tryz.f144.ntmps, b, ι, h, w, x0⟩ Tryz.f144 0 (MR h b W Q qv qc i (comG v log g).1 (comG v log g).2.1 (gs.set i zG) (comG v log g).2.2) ⟨t, hh, n⟩ := by
    intro t hh n rp r0 hc hf e4 hr ho4
    rw [hc]
    exact Ends.MR rfl H hW hQ (hw3.of (ho4 W hW) (ho4 Q hQ)) (fun id hid a1 _ => (ho4 id hid).trans (ho id hid a1)) (by rw [show Tryz.f144.results.toList = [.cell 4 44] from rfl]; exact hr) hf
  by_cases hce : ce = 0
  · subst hce
    refine Rk ?_
    refine Bs ?_
    refine AWP.seq ?_
    have hwl : (g.writes.map encS).length = g.writes.length := List.length_map _
    by_cases hwe : g.writes = []
    · have hwe0 : ((g.writes.length : Int) = 0) = True := by rw [hwe]; simp
      refine AWP.seqReg (by kernel_rfl) (fun E K hE hK => ?_); simp -implicitDefEqProofs only [go_sem, ↓reduceIte, Nat.reduceEqDiff, Nat.reduceAdd, Nat.reduceLT, Nat.reduceLeDiff, reduceCtorEq, Int.toNat_natCast, e5, hG, encG, hwl, hwe0]; refine hK _ _ _ ?_; clear hE hK K E
      refine Bt ?_
      refine AWP.seqReg (by kernel_rfl) (fun E K hE hK => ?_); simp -implicitDefEqProofs only [go_sem, ↓reduceIte, Nat.reduceEqDiff, Nat.reduceAdd, Nat.reduceLT, Nat.reduceLeDiff, reduceCtorEq, Int.toNat_natCast, e0, e4, hR, w1, wB]; refine hK _ _ _ ?_; clear hE hK K E
      refine AWP.ret ?_
      refine Ev ?_
      exact fin _ _ _ _ _ (by unfold comG; rw [hcr, if_neg (by simp), if_pos hwe]) frz_rp (by exact Erf @e4) (by exact Erf @e4) (fun id hid => upd_ne _ _ _ _ (by omega))
    · have hwe0 : ((g.writes.length : Int) = 0) = False := eq_false (fun e => hwe (List.length_eq_zero_iff.1 (by omega)))
      refine AWP.seqReg (by kernel_rfl) (fun E K hE hK => ?_); simp -implicitDefEqProofs only [go_sem, ↓reduceIte, Nat.reduceEqDiff, Nat.reduceAdd, Nat.reduceLT, Nat.reduceLeDiff, reduceCtorEq, Int.toNat_natCast, e5, hG, encG, hwl, hwe0]; refine hK _ _ _ ?_; clear hE hK K E
      refine Bf ?_
      refine AWP.skip ?_
      refine Ev ?_
      refine AWP.seqReg (by kernel_rfl) (fun E K hE hK => ?_); simp -implicitDefEqProofs only [go_sem, ↓reduceIte, Nat.reduceEqDiff, Nat.reduceAdd, Nat.reduceLT, Nat.reduceLeDiff, reduceCtorEq, Int.toNat_natCast, e0, w1, wB]
      refine CallR.use (mown_ok v c.vsz _ _) body_92 ?_
      rintro _ _ ⟨ver, cap, T2, k1, k2, k3, rfl, rfl⟩
      refine Ev ?_
      refine hK _ _ _ ?_; clear hE hK K E
      refine AWP.seq ?_
      refine AWP.seqReg (by kernel_rfl) (fun E K hE hK => ?_); simp -implicitDefEqProofs only [go_sem, ↓reduceIte, Nat.reduceEqDiff, Nat.reduceAdd, Nat.reduceLT, Nat.reduceLeDiff, reduceCtorEq, Int.toNat_natCast, e5, hG, encG, hwl]; refine hK _ _ _ ?_; clear hE hK K E
      have hlow0 : ∀ id blk, lowH b h1 id = some blk → ∀ c ∈ blk.cells, lowC b c = true := fun id blk e c hc => by
        unfold lowH at e
        by_cases hid : id < b
        · rw [if_pos hid] at e
          by_cases eQ : id = Q
          · subst eQ
            obtain ⟨T', z1, _, z3⟩ := w2
            rw [z1] at e; injection e with e; subst e
            exact lowCs_mem (lowCs_app (lowCs_p _ _) (lowCs_mono (Nat.zero_le _) z3)) c hc
          · rw [ho id hid eQ] at e
            exact H.lowCells id blk e c hc
        · rw [if_neg hid] at e; cases e
      have hlo : ∀ id, id < b → lowH b h1 id = h1 id := fun id hid => by unfold lowH; rw [if_pos hid]
      refine AWP.block ?_
      refine AWP.loopM 5 (fun m st => ∃ i, i ≤ g.writes.length ∧ m = g.writes.length - i ∧ cmI v g (lowH b h1) b W i st) g.writes.length rfl ⟨0, Nat.zero_le _, rfl, ⟨ver, cap, by exact Er, T2, by exact Er, by rw [List.take_zero, mgL, List.foldl_nil, List.length_map]; omega, k3⟩, by exact Erf @hR, by exact Erf @hG, fun id (hid : id < b) => by rw [hlo id hid]; exact Ecf (jn2 (show ¬ id = b + 3 by omega) (show ¬ id = b + 4 by omega)), by exact Erf @e0, by exact Erf @e4, by exact Erf @e5, by exact Er, by exact Er, by exact Er, by exact Er⟩ ?_
      clear hR hG e0 e4 e5 k1 k2 k3 T2 ver cap
      rintro m ⟨t, hh, n⟩ ⟨i', hi, rfl, ⟨ver, cap, hV, hrow⟩, hR2, hG2, ho2, e0, e4, e5, e8, e61, e62, e63⟩ hn1
      simp only at hV hrow hR2 hG2 ho2 e0 e4 e5 e8 e61 e62 e63 hn1
      subst hn1
      refine Rkf (jn2 @e62 @e63) ?_
      refine AWP.seq ?_
      have hmg := mgL_ok p (g.writes.take i') v.l v.l.length ⟨c.vris, c.vsz, c.vchk, Nat.le_refl _⟩ (by have := c.vl; rw [List.length_take]; omega)
      by_cases hlt : (i' : Int) < g.writes.length
      · have hw1 : IntKind.i64.wrap ((i' : Int) + 1) = ((i' + 1 : Nat) : Int) := by have := c.wl; rw [wrap_i64 (by omega) (by omega)]; rfl
        have hi2 : i' < g.writes.length := by omega
        have hge := encS_getD g.writes i' hi2
        obtain ⟨x, hx⟩ : ∃ x, g.writes[i'] = x := ⟨_, rfl⟩
        rw [hx] at hge
        have hxm : x ∈ g.writes := by rw [← hx]; exact List.getElem_mem hi2
        have htk : mgL g.now (g.writes.take (i' + 1)) v.l = setK nmK x (getV g.now x) (mgL g.now (g.writes.take i') v.l) := by rw [List.take_succ_eq_append_getElem hi2, hx, mgL_snoc]
        generalize hml : mgL g.now (g.writes.take i') v.l = ml at hV hrow htk hmg
        refine Btf @hlt ?_
        refine AWP.skip ?_
        refine Ev ?_
        refine AWP.seq ?_
        refine AWP.block ?_
        refine Rgf (jn5 @e61 @e63 @hwl @hlt @hge) (fun E K hE hK => ?_)
        refine ⟨by omega, ?_⟩
        refine hK _ _ _ ?_; clear hE hK K E
        refine AWP.reg (by kernel_rfl) (fun E K hE hK => ?_); simp -implicitDefEqProofs only [go_sem, ↓reduceIte, Nat.reduceEqDiff, Nat.reduceAdd, Nat.reduceLT, Nat.reduceLeDiff, reduceCtorEq, Int.toNat_natCast, e5, e8, hG2, encG]
        refine CallR.use (mget_ok g.now x p.ris p.size p.chk (p.wok x hxm) hh _) body_190 ?_
        rintro r2 h2 ⟨ho3, hr2⟩
        have ho4 : ∀ id, id < b + 5 → h2 id = hh id := ho3
        have hkp : ptrK (getV g.now x) h2 (b + 6) r2 := by
          cases hgv : getV g.now x with
          | none => rw [hgv] at hr2; exact hr2
          | some k => rw [hgv] at hr2; exact ⟨b + 5, hr2.1, by omega, hr2.2⟩
        have hkr : ∀ Kb, r2 = .one (.ptr Kb 0 0) → Kb ≠ b + 3 ∧ Kb ≠ b + 4 := by
          intro Kb e
          cases hgv : getV g.now x with
          | none => rw [hgv] at hr2; rw [hr2] at e; cases e
          | some k => rw [hgv] at hr2; rw [hr2.1] at e; injection e with e; injection e with e; subst e; exact ⟨show ¬ b + 5 = b + 3 by omega, show ¬ b + 5 = b + 4 by omega⟩
        refine Evf @e8 ?_
        refine CallR.use (mset_ok ml x (getV g.now x) hmg.ris hmg.size hmg.chk (p.wok x hxm) h2 _ (b + 4) (b + 3) ver cap 0 [.p (.v (.int .u64 v.gen)), .win (b + 3) ver 0 ml.length cap] r2 (Nat.add_lt_add_left (by decide) _) (Nat.add_lt_add_left (by decide) _) (by omega) ((ho4 _ (by omega)).trans hV) rfl (by simp [lowCs, lowC]) (hrow.of_eq (ho4 _ (by omega))) hkp hkr) body_186 ?_
        rintro _ h3 ⟨rfl, ver2, cap2, hrow2, hV2, ho5⟩
        have ho6 : ∀ id, id < b + 6 → id ≠ b + 4 → id ≠ b + 3 → h3 id = h2 id := ho5
        have hV3 : h3 (b + 4) = some ⟨0, [.p (.v (.int .u64 v.gen)), .win (b + 3) ver2 0 (setK nmK x (getV g.now x) ml).length cap2]⟩ := hV2
        refine Ev ?_
        refine hK _ _ _ ?_; clear hE hK K E
        refine Ev ?_
        refine Raf (jn2 @e63 @hw1) (fun E K hE hK => ?_); refine hK _ _ _ ?_; clear hE hK K E
        refine ⟨(by decide : 5 ≤ 6), g.writes.length - (i' + 1), by omega, i' + 1, by omega, rfl, ⟨ver2, cap2, ?_, ?_⟩, cutH_same (Nat.add_lt_add_left (by decide) _) ((ho6 _ (by omega) (by omega) (by omega)).trans ((ho4 _ (by omega)).trans hR2)) (by simp [lowCs, lowC]), cutH_same (Nat.add_lt_add_left (by decide) _) ((ho6 _ (by omega) (by omega) (by omega)).trans ((ho4 _ (by omega)).trans hG2)) (lowCs_p _ _), cutH_outer (Nat.le_add_right _ _) (fun id (hid : id < b) => (ho6 id (by omega) (by omega) (by omega)).trans ((ho4 id (by omega)).trans (ho2 id hid))) hlow0, by refine Evf @e0 ?_; exact cutV_ptr (Nat.lt_add_right _ hW), by refine Evf @e4 ?_; exact cutV_ptr (Nat.add_lt_add_left (by decide) _), by refine Evf @e5 ?_; exact cutV_ptr (Nat.add_lt_add_left (by decide) _), by refine Evf @e8 ?_; exact cutV_ptr (Nat.add_lt_add_left (by decide) _), by exact Ecf @e61, by exact Ecf @e62, by exact Er⟩
        · rw [htk]; exact cutH_same (Nat.add_lt_add_left (by decide) _) hV3 (by simp [lowCs, lowC])
        · rw [htk]; exact hrow2.cut (Nat.add_lt_add_left (by decide) _)
      · refine Bff @hlt ?_
        refine AWP.exit ?_
        refine Ev ?_
        have hil : i' = g.writes.length := by omega
        subst hil
        rw [List.take_length] at hV hrow hmg
        obtain ⟨ml, hml⟩ : ∃ ml, mgL g.now g.writes v.l = ml := ⟨_, rfl⟩
        rw [hml] at hV hrow hmg
        have hw5 : WB hh W Q qv qc i v log (gs.set i zG) := hw3.of ((ho2 W hW).trans (hlo W hW)) ((ho2 Q hQ).trans (hlo Q hQ))
        have hwW : hh W = some ⟨0, wB v log Q qv qc i⟩ := hw5.w
        have hwr : IntKind.u64.wrap (v.gen + 1) = v.gen + 1 := c.vg
        refine AWP.seqRegD [85] [.tup [DonesV (addR log (v.gen + 1) g.writes).1, IntV (addR log (v.gen + 1) g.writes).2]] [] mixed (by kernel_rfl) (by kernel_rfl) (fun K hK => .inl ?_) (by kernel_rfl); simp -implicitDefEqProofs only [go_sem, ↓reduceIte, Nat.reduceEqDiff, Nat.reduceAdd, Nat.reduceLT, Nat.reduceLeDiff, reduceCtorEq, Int.toNat_natCast, e0, e5, e8, hwW, hV, hG2, encG, wB, hwr]
        refine CallP.use (fun _ _ _ => vAdd_ok log (v.gen + 1) g.writes c.sz c.len (by have := c.wl; omega) _ _) body_193 ?_
        obtain ⟨ar, har⟩ : ∃ r, addR log (v.gen + 1) g.writes = r := ⟨_, rfl⟩
        obtain ⟨al, ae⟩ := ar
        refine Evf @har ?_
        refine hK _ _ _ ?_; clear hK K
        have fin2 : ∀ (t : Nat → AV) (h5 : Heap) (n : Nat), ((addR log (v.gen + 1) g.writes).2 ≠ 0 ∨ 256 < ml.length) → t 4 = .one (.ptr (b + 1) 0 0) → resA Tryz.prog h5 t [.cell 4 44] = some (.agg [.p (.v (.int .i64 6)), .p (.v (.int .u64 0)), .p (.v (.float .f64 0)), .p (.v (.slice none 0 0)), .p (.v (.slice none 0 0))]) → (∀ id, id < b → h5 id = h1 id) →
            Am.Ends Tryz.prog ⟨Tryz.f144.ntmps, b, ι, h, w, x0⟩ Tryz.f144 0 (MR h b W Q qv qc i (comG v log g).1 (comG v log g).2.1 (gs.set i zG) (comG v log g).2.2) ⟨t, h5, n⟩ := by
          intro t h5 n hc e4 hr ho4
          refine fin t h5 n (errR 6) _ ?_ frz_rpZ e4 hr ho4
          have hm : (mergeV v g.now g.writes).l = ml := hml
          unfold comG; rw [hcr, if_neg (by simp), if_neg hwe, hm, if_pos hc]
        refine AWP.frzAt (b + 4) 1 hV rfl hrow (okEs_kn _) (List.length_map _) (by omega) ?_
        refine Am.AWP.genT (fun st => st.n = 5 ∧ st.t 0 = .one (.ptr W 0 0) ∧ st.t 4 = .one (.ptr (b + 1) 0 0) ∧ st.t 8 = .one (.ptr (b + 4) 0 0) ∧ st.t 11 = DonesV al ∧ st.t 12 = IntV ae ∧ st.h (b + 1) = some ⟨0, [.p (.v (.int .i64 0)), .p (.v (.int .u64 0)), .p (.v (.float .f64 0)), .p (.v (.slice none 0 0)), .p (.v (.slice none 0 0))]⟩ ∧ st.h (b + 4) = some ⟨0, [.p (.v (.int .u64 v.gen)), .p (.sl 3 (ml.map encK))]⟩ ∧ ∀ id, id < b → st.h id = h1 id) ⟨rfl, by exact Erf @e0, by exact Erf @e4, by exact Erf @e8, by exact Er, by exact Er, (upd_ne _ _ _ _ (by omega)).trans ((delH_ne _ _ _ (by omega)).trans hR2), upd_same _ _ _, fun id (hid : id < b) => (upd_ne _ _ _ _ (by omega)).trans ((delH_ne _ _ _ (by omega)).trans ((ho2 id hid).trans (hlo id hid)))⟩ ?_
        clear hV hrow hR2 hG2 ho2 e0 e4 e5 e8 e61 e62 e63 hw5 hwW t
        rintro ⟨t, h5, n⟩ ⟨hn1, e0, e4, e8, e11, e12, hR5, hV, ho5⟩
        simp only at hn1 e0 e4 e8 e11 e12 hR5 hV ho5
        subst hn1
        have hml2 : (ml.map encK).length = ml.length := List.length_map _
        refine AWP.seq ?_
        by_cases hae : ae = 0
        · subst hae
          by_cases hbig : (256 : Int) < ml.length
          · refine Rkf (jn5 @e8 @e12 @hV @hbig @hml2) ?_
            refine Bt ?_
            refine Rkf (jn2 @e4 @hR5) ?_
            refine AWP.ret ?_
            refine Ev ?_
            exact fin2 _ _ _ (.inr (by omega)) (by exact Erf @e4) (by exact Erf @e4) (fun id hid => (upd_ne _ _ _ _ (by omega)).trans (ho5 id hid))
          · refine Rkf (jn5 @e8 @e12 @hV @hbig @hml2) ?_
            refine Bf ?_
            refine AWP.skip ?_
            refine Ev ?_
            have hm : mergeV v g.now g.writes = ⟨v.gen + 1, ml⟩ := by unfold mergeV; rw [← hml]; rfl
            have hC : comG v log g = (⟨v.gen + 1, ml⟩, al, ⟨0, v.gen + 1, 0, [], []⟩) := by
              unfold comG; rw [hcr, if_neg (by simp), if_neg hwe, har, hm, if_neg (by simp; omega)]
            rw [hC]
            have w1' : h5 W = some ⟨0, wB v log Q qv qc i⟩ := (ho5 W hW).trans w1
            have hwr : IntKind.u64.wrap (v.gen + 1) = v.gen + 1 := c.vg
            have nW4 : ¬ W = b + 4 := by omega
            have n4W : ¬ b + 4 = W := by omega
            have n1W : ¬ b + 1 = W := by omega
            refine Rkf (jn3 @e8 @hV @hwr) ?_
            refine AWP.seqReg (by kernel_rfl) (fun E K hE hK => ?_); simp -implicitDefEqProofs only [go_sem, ↓reduceIte, Nat.reduceEqDiff, Nat.reduceAdd, Nat.reduceLT, Nat.reduceLeDiff, reduceCtorEq, Int.toNat_natCast, e0, e8, e11, w1', wB, nW4, n4W]; refine hK _ _ _ ?_; clear hE hK K E
            refine Rkf (jn5 @e4 @e8 @hR5 @n1W @n4W) ?_
            refine AWP.ret ?_
            refine Ev ?_
            obtain ⟨T', z1, z2, z3⟩ := w2
            have nQ1 : ¬ Q = b + 1 := by omega
            have nQ4 : ¬ Q = b + 4 := by omega
            refine Ends.MR rfl H hW hQ ⟨(upd_ne _ _ _ _ nW1).trans (by simp only [upd, if_true]), ⟨T', by simp only [upd, if_neg nQ1, if_neg hWQ, if_neg nQ4]; exact (ho5 Q hQ).trans z1, z2, z3⟩, w3, w4, w5⟩ (fun id (hid : id < b) a1 a2 => ?_) (r0 := .agg [.p (.v (.int .i64 0)), .p (.v (.int .u64 (v.gen + 1))), .p (.v (.float .f64 0)), .p (.v (.slice none 0 0)), .p (.v (.slice none 0 0))]) (by rw [show Tryz.f144.results.toList = [.cell 4 44] from rfl]; exact Erf @e4) frz_rp
            refine Evf (jn3 @a2 (show ¬ id = b + 1 by omega) (show ¬ id = b + 4 by omega)) ?_
            exact (ho5 id hid).trans (ho id hid a1)
        · have hae' : (ae = 0) = False := eq_false hae
          refine Rkf (jn2 @e12 @hae') ?_
          refine Bt ?_
          refine Rkf (jn2 @e4 @hR5) ?_
          refine AWP.ret ?_
          refine Ev ?_
          exact fin2 _ _ _ (.inl (by rw [har]; exact hae)) (by exact Erf @e4) (by exact Erf @e4) (fun id hid => (upd_ne _ _ _ _ (by omega)).trans (ho5 id hid))
  · have hce' : (ce = 0) = False := eq_false hce
    refine Rkf @hce' ?_
    refine Bt ?_
    refine Rkf (jn2 @e4 @hR) ?_
    refine AWP.ret ?_
    refine Ev ?_
    exact fin _ _ _ _ _ (by unfold comG; rw [hcr, if_pos hce]) frz_rpZ (by exact Erf @e4) (by exact Erf @e4) (fun id hid => upd_ne _ _ _ _ (by omega))
end Go.Proofs.YtihgnpboabpchaaGreatDoor
namespace Go.Proofs.YtihgnpboabpchaaGreatDoor
set_option linter.unusedSimpArgs false
set_option linter.unusedVariables false
set_option linter.unnecessarySimpa false
open Go Am
set_option maxRecDepth 100000
def doesF (k : Int) : FuncId × Bool :=
  if k = 3 then (141, false) else if k = 4 then (142, false) else if k = 5 then (143, false) else if k = 9 then (144, false)
  else if k = 6 ∨ k = 7 then (145, true) else if k = 8 then (146, true) else (147, true)
theorem frz_cb {h : Heap} {b W : Nat} {f : FuncId} {x : Bool} (hW : W < b) : frzV h b (.tup [.one (.clo (.func f) [.ptr W 0 0] []), BoolV x]) (.tup [.one (.clo (.func f) [.ptr W 0 0] []), BoolV x]) := by
  refine .tup rfl (fun i c d hc hd => ?_)
  match i with
  | 0 => simp at hc hd; subst hc; subst hd; exact .one (.inl ⟨rfl, by simp [lowC, lowCs, hW]⟩)
  | 1 => simp at hc hd; subst hc; subst hd; exact .v _
  | i + 2 => simp at hc
theorem mDoes_ok (k : Int) (h : Heap) (b W : Nat) (hW : W < b) :
    ACalls Tryz.prog 97 [.one (.ptr W 0 0), IntV k] h b 0 (fun r h' => r = .tup [.one (.clo (.func (doesF k).1) [.ptr W 0 0] []), BoolV (doesF k).2] ∧ h' = h) := by
  refine ACalls.enter Tryz.func97 rfl (by simp [Tryz.ntmps97]) (fun ι w hn H => ?_)
  have fin : ∀ (t : Nat → AV) (f : FuncId) (x : Bool), doesF k = (f, x) → t 4 = .one (.clo (.func f) [.ptr W 0 0] []) → t 5 = BoolV x → Am.Ends Tryz.prog ⟨Tryz.f97.ntmps, b, ι, h, w, x0⟩ Tryz.f97 0 (fun r h' => r = .tup [.one (.clo (.func (doesF k).1) [.ptr W 0 0] []), BoolV (doesF k).2] ∧ h' = h) ⟨t, h, 0⟩ := by
    intro t f x hd e4 e5
    rw [hd]
    exact Ends.pure hn H (fun _ _ => rfl) (by rw [show Tryz.f97.results.toList = [.tmp 4, .tmp 5] from rfl]; exact Erf (jn2 @e4 @e5)) (frz_cb hW) ⟨rfl, rfl⟩
  refine Rk ?_
  refine AWP.seq ?_
  refine Rk ?_
  refine AWP.block ?_
  by_cases h3 : k = 3
  · have h3' : (k = 3) = True := eq_true h3
    refine Rkf @h3' ?_
    refine Bt ?_
    refine Rk ?_
    refine AWP.ret ?_
    refine Ev ?_
    exact fin _ 141 false (by subst h3; rfl) (by exact Er) (by exact Er)
  have h3' : (k = 3) = False := eq_false h3
  refine Rkf @h3' ?_
  refine Bf ?_
  by_cases h4 : k = 4
  · have h4' : (k = 4) = True := eq_true h4
    refine Rkf @h4' ?_
    refine Bt ?_
    refine Rk ?_
    refine AWP.ret ?_
    refine Ev ?_
    exact fin _ 142 false (by subst h4; rfl) (by exact Er) (by exact Er)
  have h4' : (k = 4) = False := eq_false h4
  refine Rkf @h4' ?_
  refine Bf ?_
  by_cases h5 : k = 5
  · have h5' : (k = 5) = True := eq_true h5
    refine Rkf @h5' ?_
    refine Bt ?_
    refine Rk ?_
    refine AWP.ret ?_
    refine Ev ?_
    exact fin _ 143 false (by subst h5; rfl) (by exact Er) (by exact Er)
  have h5' : (k = 5) = False := eq_false h5
  refine Rkf @h5' ?_
  refine Bf ?_
  by_cases h9 : k = 9
  · have h9' : (k = 9) = True := eq_true h9
    refine Rkf @h9' ?_
    refine Bt ?_
    refine Rk ?_
    refine AWP.ret ?_
    refine Ev ?_
    exact fin _ 144 false (by subst h9; rfl) (by exact Er) (by exact Er)
  have h9' : (k = 9) = False := eq_false h9
  refine Rkf @h9' ?_
  refine Bf ?_
  refine AWP.seq ?_
  by_cases h6 : k = 6
  · have h6' : (k = 6) = True := eq_true h6
    refine Rkf @h6' ?_
    refine Bt ?_
    refine AWP.skip ?_
    refine Ev ?_
    refine Bt ?_
    refine Rk ?_
    refine AWP.ret ?_
    refine Ev ?_
    exact fin _ 145 true (by subst h6; rfl) (by exact Er) (by exact Er)
  have h6' : (k = 6) = False := eq_false h6
  refine Rkf @h6' ?_
  refine Bf ?_
  by_cases h7 : k = 7
  · have h7' : (k = 7) = True := eq_true h7
    refine Raf @h7' (fun E K hE hK => ?_); refine hK _ _ _ ?_; clear hE hK K E
    refine Bt ?_
    refine Rk ?_
    refine AWP.ret ?_
    refine Ev ?_
    exact fin _ 145 true (by subst h7; rfl) (by exact Er) (by exact Er)
  have h7' : (k = 7) = False := eq_false h7
  refine Raf @h7' (fun E K hE hK => ?_); refine hK _ _ _ ?_; clear hE hK K E
  refine Bf ?_
  by_cases h8 : k = 8
  · have h8' : (k = 8) = True := eq_true h8
    refine Rkf @h8' ?_
    refine Bt ?_
    refine Rk ?_
    refine AWP.ret ?_
    refine Ev ?_
    exact fin _ 146 true (by subst h8; rfl) (by exact Er) (by exact Er)
  have h8' : (k = 8) = False := eq_false h8
  refine Rkf @h8' ?_
  refine Bf ?_
  refine AWP.skip ?_
  refine Ev ?_
  refine Rk ?_
  refine AWP.ret ?_
  refine Ev ?_
  exact fin _ 147 true (by unfold doesF; rw [if_neg h3, if_neg h4, if_neg h5, if_neg h9, if_neg (by simp [h6, h7]), if_neg h8]) (by exact Er) (by exact Er)
end Go.Proofs.YtihgnpboabpchaaGreatDoor
namespace Go.Proofs.YtihgnpboabpchaaGreatDoor
set_option linter.unusedSimpArgs false
set_option linter.unusedVariables false
set_option linter.unnecessarySimpa false
open Go Am
set_option maxRecDepth 100000
structure APre (v : Vw) (log : List Dn) (g : Gs) (a : Ac) : Prop where
  p : GPre g
  c : CPre log v g
  dris : Ris nmS g.dirs
  dok : ∀ x ∈ g.dirs, okF x
  dlen : g.dirs.length < 1024
  nl : g.now.l.length < 1000000
  data : a.data.length ≤ 1000000
  ka : 1 ≤ a.kind ∧ a.kind ≤ 11
theorem does_snap (k : Int) (h : 3 ≤ k ∧ k ≤ 10) : (doesF k).2 = snapK k := by
  have : k = 3 ∨ k = 4 ∨ k = 5 ∨ k = 6 ∨ k = 7 ∨ k = 8 ∨ k = 9 ∨ k = 10 := by omega
  rcases this with rfl | rfl | rfl | rfl | rfl | rfl | rfl | rfl <;> rfl
def methG (v : Vw) (log : List Dn) (g : Gs) (a : Ac) : Vw × List Dn × Gs × Rp :=
  if a.kind = 3 then (v, log, (putG g a).1, (putG g a).2)
  else if a.kind = 4 then (v, log, (delG g a).1, (delG g a).2)
  else if a.kind = 5 then (v, log, (movG g a).1, (movG g a).2)
  else if a.kind = 9 then ((comG v log g).1, (comG v log g).2.1, zG, (comG v log g).2.2)
  else if a.kind = 6 ∨ a.kind = 7 then (v, log, (lookG g a).1, (lookG g a).2)
  else if a.kind = 8 then (v, log, (listG g a).1, (listG g a).2)
  else (v, log, zG, zR)
theorem mMeth_ok (a : Ac) (g : Gs) (v : Vw) (log : List Dn) (P : APre v log g a) (h : Heap) (b W Q qv qc i : Nat) (gs : List Gs) (hW : W < b) (hQ : Q < b) (hw : WB h W Q qv qc i v log gs) (hg : gs[i]? = some g) :
    bodyB Tryz.prog (doesF a.kind).1 = true ∧ ACalls Tryz.prog (doesF a.kind).1 [.one (.ptr W 0 0), AcV a] h b 0 (MR h b W Q qv qc i (methG v log g a).1 (methG v log g a).2.1 (gs.set i (methG v log g a).2.2.1) (methG v log g a).2.2.2) := by
  unfold doesF methG
  by_cases h3 : a.kind = 3
  · simp only [if_pos h3]; exact ⟨body_141, mPut_ok a g P.p P.data h b W Q qv qc i v log gs hW hQ hw hg⟩
  simp only [if_neg h3]
  by_cases h4 : a.kind = 4
  · simp only [if_pos h4]; exact ⟨body_142, mDel_ok a g P.p h b W Q qv qc i v log gs hW hQ hw hg⟩
  simp only [if_neg h4]
  by_cases h5 : a.kind = 5
  · simp only [if_pos h5]; exact ⟨body_143, mMove_ok a g P.p P.nl h b W Q qv qc i v log gs hW hQ hw hg⟩
  simp only [if_neg h5]
  by_cases h9 : a.kind = 9
  · simp only [if_pos h9]; exact ⟨body_144, mCommit_ok a g P.p v log P.c h b W Q qv qc i gs hW hQ hw hg⟩
  simp only [if_neg h9]
  by_cases h67 : a.kind = 6 ∨ a.kind = 7
  · simp only [if_pos h67]; exact ⟨body_145, mLook_ok a g P.p h b W Q qv qc i v log gs hW hQ hw hg⟩
  simp only [if_neg h67]
  by_cases h8 : a.kind = 8
  · simp only [if_pos h8]; exact ⟨body_146, mList_ok a g P.p P.dris P.dok P.dlen h b W Q qv qc i v log gs hW hQ hw hg⟩
  simp only [if_neg h8]
  exact ⟨body_147, mAbort_ok a h b W Q qv qc i v log gs hW hQ hw⟩
theorem mAct_ok (a : Ac) (g : Gs) (v : Vw) (log : List Dn) (P : APre v log g a) (h : Heap) (b W Q qv qc i : Nat) (gs : List Gs) (hW : W < b) (hQ : Q < b) (hw : WB h W Q qv qc i v log gs) (hg : gs[i]? = some g) :
    ACalls Tryz.prog 39 [.one (.ptr W 0 0), AcV a] h b 0 (MR h b W Q qv qc i (actG v log g a).1 (actG v log g a).2.1 (gs.set i (actG v log g a).2.2.1) (actG v log g a).2.2.2) := by
  refine ACalls.enter Tryz.func39 rfl (by simp [Tryz.ntmps39]) (fun ι w hn H => ?_)
  have hself := gs_self hg
  refine Rk ?_
  refine AWP.seq ?_
  refine AWP.block ?_
  by_cases h11 : a.kind = 11
  · have h11' : (a.kind = 11) = True := eq_true h11
    have hd : actG v log g a = (v, log, g, zR) := by unfold actG; rw [if_pos h11]
    rw [hd]
    simp only [hself]
    refine AWP.seqReg (by kernel_rfl) (fun E K hE hK => ?_); simp -implicitDefEqProofs only [go_sem, ↓reduceIte, Nat.reduceEqDiff, Nat.reduceAdd, Nat.reduceLT, Nat.reduceLeDiff, reduceCtorEq, Int.toNat_natCast, encA, h11']; refine hK _ _ _ ?_; clear hE hK K E
    refine Bt ?_
    refine Rk ?_
    refine AWP.ret ?_
    refine Ev ?_
    exact Ends.MR rfl H hW hQ (hw.of (by exact Ecf (jn2 (show ¬ W = b by omega) (show ¬ W = b + 1 by omega))) (by exact Ecf (jn2 (show ¬ Q = b by omega) (show ¬ Q = b + 1 by omega)))) (fun id (hid : id < b) _ _ => by exact Ecf (jn2 (show ¬ id = b by omega) (show ¬ id = b + 1 by omega))) (by rw [show Tryz.f39.results.toList = [.cell 4 44] from rfl]; exact Er) frz_rpZ
  have h11' : (a.kind = 11) = False := eq_false h11
  refine AWP.seqReg (by kernel_rfl) (fun E K hE hK => ?_); simp -implicitDefEqProofs only [go_sem, ↓reduceIte, Nat.reduceEqDiff, Nat.reduceAdd, Nat.reduceLT, Nat.reduceLeDiff, reduceCtorEq, Int.toNat_natCast, encA, h11']; refine hK _ _ _ ?_; clear hE hK K E
  refine Bf ?_
  have hwZ : ∀ hh : Heap, (∀ id, id < b → hh id = h id) → WB hh W Q qv qc i v log gs := fun hh ho => hw.of (ho W hW) (ho Q hQ)
  have fin : ∀ (t : Nat → AV) (hh h2 : Heap) (n B : Nat) (v' : Vw) (log' : List Dn) (gs' : List Gs) (rp : Rp) (r : AV), b + 2 ≤ B → (∀ id, id < b → hh id = h id) → MR hh B W Q qv qc i v' log' gs' rp r h2 → t 4 = .one (.ptr (b + 1) 0 0) →
      Am.Ends Tryz.prog ⟨Tryz.f39.ntmps, b, ι, h, w, x0⟩ Tryz.f39 0 (MR h b W Q qv qc i v' log' gs' rp) ⟨t, upd h2 (b + 1) ⟨0, [.p (.v (.int .i64 rp.e)), .p (.v (.int .u64 rp.gen)), .p (.v (.float .f64 rp.rank)), .p (.sl 1 (rp.data.map encO)), .p (.sl 1 (rp.names.map encS))]⟩, n⟩ := by
    rintro t hh h2 n B v' log' gs' rp r hB ho ⟨rfl, hw2, ho2⟩ e4
    exact Ends.MR rfl H hW hQ (hw2.of (upd_ne _ _ _ _ (by omega)) (upd_ne _ _ _ _ (by omega))) (fun id hid a1 a2 => (upd_ne _ _ _ _ (by omega)).trans ((ho2 id (by omega) a1 a2).trans (ho id hid))) (by rw [show Tryz.f39.results.toList = [.cell 4 44] from rfl]; exact Erf @e4) (r0 := RpV rp) (frz_rpS _)
  refine Am.AWP.genT (fun st => st.n = 2 ∧ st.t 0 = .one (.ptr W 0 0) ∧ st.t 3 = .one (.ptr b 0 0) ∧ st.t 4 = .one (.ptr (b + 1) 0 0) ∧ st.h b = some ⟨0, (encA a).map .p⟩ ∧ st.h (b + 1) = some ⟨0, [.p (.v (.int .i64 0)), .p (.v (.int .u64 0)), .p (.v (.float .f64 0)), .p (.v (.slice none 0 0)), .p (.v (.slice none 0 0))]⟩ ∧ ∀ id, id < b → st.h id = h id) ⟨rfl, by exact Er, by exact Er, by exact Er, by (first | (simp -implicitDefEqProofs only [go_sem, ↓reduceIte, Nat.reduceEqDiff, Nat.reduceAdd, Nat.reduceLT, Nat.reduceLeDiff, reduceCtorEq, Int.toNat_natCast, encA]; first | done | rfl) | rfl), by exact Er, fun id (hid : id < b) => by exact Ecf (jn2 (show ¬ id = b by omega) (show ¬ id = b + 1 by omega))⟩ ?_
  rintro ⟨t, h1, n⟩ ⟨hn1, e0, e3, e4, hA, hR, ho⟩
  simp only at hn1 e0 e3 e4 hA hR ho
  subst hn1
  by_cases hk1 : a.kind = 1
  · have hk1' : (a.kind = 1) = True := eq_true hk1
    refine AWP.seqReg (by kernel_rfl) (fun E K hE hK => ?_); simp -implicitDefEqProofs only [go_sem, ↓reduceIte, Nat.reduceEqDiff, Nat.reduceAdd, Nat.reduceLT, Nat.reduceLeDiff, reduceCtorEq, Int.toNat_natCast, e3, hA, encA, hk1']; refine hK _ _ _ ?_; clear hE hK K E
    refine Bt ?_
    have hd : actG v log g a = (v, log, (begG v g a).1, (begG v g a).2) := by
      unfold actG begG; rw [if_neg h11, if_pos (.inl hk1)]; split <;> rfl
    rw [hd]
    refine AWP.seqReg (by kernel_rfl) (fun E K hE hK => ?_); simp -implicitDefEqProofs only [go_sem, ↓reduceIte, Nat.reduceEqDiff, Nat.reduceAdd, Nat.reduceLT, Nat.reduceLeDiff, reduceCtorEq, Int.toNat_natCast, e0, e3, hA, encA]
    refine CallR.use (mBegin_ok a g h1 (b + 2) W Q qv qc i v P.c.vsz log gs (by omega) (by omega) (hwZ h1 ho) hg) body_96 ?_
    rintro _ h2 ⟨rfl, hw2, ho2⟩
    have hb2 : h2 (b + 1) = some ⟨0, [.p (.v (.int .i64 0)), .p (.v (.int .u64 0)), .p (.v (.float .f64 0)), .p (.v (.slice none 0 0)), .p (.v (.slice none 0 0))]⟩ := (ho2 (b + 1) (by omega) (by omega) (by omega)).trans hR
    refine Evf (jn2 @e4 @hb2) ?_
    refine hK _ _ _ ?_; clear hE hK K E
    refine AWP.ret ?_
    refine Ev ?_
    exact fin _ h1 h2 _ (b + 2) v log _ _ _ (Nat.le_refl _) ho ⟨rfl, hw2, ho2⟩ (by exact Erf @e4)
  have hk1' : (a.kind = 1) = False := eq_false hk1
  by_cases hk2 : a.kind = 2
  · have hk2' : (a.kind = 2) = True := eq_true hk2
    refine AWP.seqReg (by kernel_rfl) (fun E K hE hK => ?_); simp -implicitDefEqProofs only [go_sem, ↓reduceIte, Nat.reduceEqDiff, Nat.reduceAdd, Nat.reduceLT, Nat.reduceLeDiff, reduceCtorEq, Int.toNat_natCast, e3, hA, encA, hk1', hk2']; refine hK _ _ _ ?_; clear hE hK K E
    refine Bt ?_
    have hd : actG v log g a = (v, log, (begG v g a).1, (begG v g a).2) := by
      unfold actG begG; rw [if_neg h11, if_pos (.inr hk2)]; split <;> rfl
    rw [hd]
    refine AWP.seqReg (by kernel_rfl) (fun E K hE hK => ?_); simp -implicitDefEqProofs only [go_sem, ↓reduceIte, Nat.reduceEqDiff, Nat.reduceAdd, Nat.reduceLT, Nat.reduceLeDiff, reduceCtorEq, Int.toNat_natCast, e0, e3, hA, encA]
    refine CallR.use (mBegin_ok a g h1 (b + 2) W Q qv qc i v P.c.vsz log gs (by omega) (by omega) (hwZ h1 ho) hg) body_96 ?_
    rintro _ h2 ⟨rfl, hw2, ho2⟩
    have hb2 : h2 (b + 1) = some ⟨0, [.p (.v (.int .i64 0)), .p (.v (.int .u64 0)), .p (.v (.float .f64 0)), .p (.v (.slice none 0 0)), .p (.v (.slice none 0 0))]⟩ := (ho2 (b + 1) (by omega) (by omega) (by omega)).trans hR
    refine Evf (jn2 @e4 @hb2) ?_
    refine hK _ _ _ ?_; clear hE hK K E
    refine AWP.ret ?_
    refine Ev ?_
    exact fin _ h1 h2 _ (b + 2) v log _ _ _ (Nat.le_refl _) ho ⟨rfl, hw2, ho2⟩ (by exact Erf @e4)
  have hk2' : (a.kind = 2) = False := eq_false hk2
  refine AWP.seqReg (by kernel_rfl) (fun E K hE hK => ?_); simp -implicitDefEqProofs only [go_sem, ↓reduceIte, Nat.reduceEqDiff, Nat.reduceAdd, Nat.reduceLT, Nat.reduceLeDiff, reduceCtorEq, Int.toNat_natCast, e3, hA, encA, hk1', hk2']; refine hK _ _ _ ?_; clear hE hK K E
  refine Bf ?_
  refine AWP.skip ?_
  refine Ev ?_
  obtain ⟨d, hdf⟩ : ∃ d, doesF a.kind = d := ⟨_, rfl⟩
  obtain ⟨f, x⟩ := d
  have hm := mMeth_ok a g v log P h1 (b + 2) W Q qv qc i gs (by omega) (by omega) (hwZ h1 ho) hg
  rw [hdf] at hm
  obtain ⟨hmb, hmc⟩ := hm
  simp only at hmb hmc
  obtain ⟨w1, w2, w3, w4, w5⟩ := hwZ h1 ho
  obtain ⟨T, q1, q2, q3⟩ := w2
  have hgl : i < gs.length := by omega
  have hge : gs[i] = g := by rw [List.getElem?_eq_getElem hgl] at hg; injection hg
  have hpart := gs_at T hgl
  rw [hge] at hpart
  have q1' : h1 Q = some ⟨qv, (gs.map encG).flatten.map Cell.p ++ T⟩ := q1
  generalize hL : (gs.map encG).flatten.map Cell.p ++ T = L at q1' hpart
  have hk0 : L[i * 8]? = some (.p (.v (.int .i64 g.kind))) := gs_cell hpart 0 (by decide)
  refine AWP.seqReg (by kernel_rfl) (fun E K hE hK => ?_); simp -implicitDefEqProofs only [go_sem, ↓reduceIte, Nat.reduceEqDiff, Nat.reduceAdd, Nat.reduceLT, Nat.reduceLeDiff, reduceCtorEq, Int.toNat_natCast, e0, e3, hA, encA]
  refine Us (mDoes_ok a.kind _ _ W (Nat.lt_add_right _ hW)) body_97 ?_
  refine Evf @hdf ?_
  refine hK _ _ _ ?_; clear hE hK K E
  refine AWP.seq ?_
  have hsn : snapK a.kind = x := by
    have z := does_snap a.kind (by have := P.ka; omega)
    rw [hdf] at z; exact z.symm
  by_cases hg0 : g.kind = 0
  · have hg0' : (g.kind = 0) = True := eq_true hg0
    refine AWP.seqReg (by kernel_rfl) (fun E K hE hK => ?_); simp -implicitDefEqProofs only [go_sem, ↓reduceIte, Nat.reduceEqDiff, Nat.reduceAdd, Nat.reduceLT, Nat.reduceLeDiff, reduceCtorEq, Int.toNat_natCast, e0, w1, q1', hk0, wB, hg0']
    refine hK _ _ _ ?_; clear hE hK K E
    refine Bt ?_
    have hd : actG v log g a = (v, log, g, errR 10) := by unfold actG; rw [if_neg h11, if_neg (by simp [hk1, hk2]), if_pos (.inl hg0)]
    rw [hd]
    simp only [hself]
    refine Rkf (jn2 @e4 @hR) ?_
    refine AWP.ret ?_
    refine Ev ?_
    exact Ends.MR rfl H hW hQ ((hwZ h1 ho).of (upd_ne _ _ _ _ (by omega)) (upd_ne _ _ _ _ (by omega))) (fun id hid _ _ => (upd_ne _ _ _ _ (by omega)).trans (ho id hid)) (by rw [show Tryz.f39.results.toList = [.cell 4 44] from rfl]; exact Erf @e4) frz_rpZ
  have hg0' : (g.kind = 0) = False := eq_false hg0
  by_cases hg2 : g.kind = 2
  · have hg2' : (g.kind = 2) = True := eq_true hg2
    cases x with
    | false =>
      refine AWP.seqReg (by kernel_rfl) (fun E K hE hK => ?_); simp -implicitDefEqProofs only [go_sem, ↓reduceIte, Nat.reduceEqDiff, Nat.reduceAdd, Nat.reduceLT, Nat.reduceLeDiff, reduceCtorEq, Int.toNat_natCast, e0, w1, q1', hk0, wB, hg0', hg2']
      refine hK _ _ _ ?_; clear hE hK K E
      refine Bt ?_
      have hd : actG v log g a = (v, log, g, errR 10) := by unfold actG; rw [if_neg h11, if_neg (by simp [hk1, hk2]), if_pos (.inr ⟨hg2, hsn⟩)]
      rw [hd]
      simp only [hself]
      refine Rkf (jn2 @e4 @hR) ?_
      refine AWP.ret ?_
      refine Ev ?_
      exact Ends.MR rfl H hW hQ ((hwZ h1 ho).of (upd_ne _ _ _ _ (by omega)) (upd_ne _ _ _ _ (by omega))) (fun id hid _ _ => (upd_ne _ _ _ _ (by omega)).trans (ho id hid)) (by rw [show Tryz.f39.results.toList = [.cell 4 44] from rfl]; exact Erf @e4) frz_rpZ
    | true =>
      refine AWP.seqReg (by kernel_rfl) (fun E K hE hK => ?_); simp -implicitDefEqProofs only [go_sem, ↓reduceIte, Nat.reduceEqDiff, Nat.reduceAdd, Nat.reduceLT, Nat.reduceLeDiff, reduceCtorEq, Int.toNat_natCast, e0, w1, q1', hk0, wB, hg0', hg2']
      refine hK _ _ _ ?_; clear hE hK K E
      refine Bf ?_
      refine AWP.skip ?_
      refine Ev ?_
      have hd : actG v log g a = methG v log g a := by unfold actG methG; rw [if_neg h11, if_neg (by simp [hk1, hk2]), if_neg (by simp [hg0, hsn])]
      rw [hd]
      refine AWP.seqReg (by kernel_rfl) (fun E K hE hK => ?_); simp -implicitDefEqProofs only [go_sem, ↓reduceIte, Nat.reduceEqDiff, Nat.reduceAdd, Nat.reduceLT, Nat.reduceLeDiff, reduceCtorEq, Int.toNat_natCast, e3, hA, encA]
      refine CallR.use hmc hmb ?_
      rintro _ h2 ⟨rfl, hw2, ho2⟩
      have hb2 : h2 (b + 1) = some ⟨0, [.p (.v (.int .i64 0)), .p (.v (.int .u64 0)), .p (.v (.float .f64 0)), .p (.v (.slice none 0 0)), .p (.v (.slice none 0 0))]⟩ := (ho2 (b + 1) (by omega) (by omega) (by omega)).trans hR
      refine Evf (jn2 @e4 @hb2) ?_
      refine hK _ _ _ ?_; clear hE hK K E
      refine AWP.ret ?_
      refine Ev ?_
      exact fin _ h1 h2 _ (b + 2) _ _ _ _ _ (Nat.le_refl _) ho ⟨rfl, hw2, ho2⟩ (by exact Erf @e4)
  · have hg2' : (g.kind = 2) = False := eq_false hg2
    refine AWP.seqReg (by kernel_rfl) (fun E K hE hK => ?_); simp -implicitDefEqProofs only [go_sem, ↓reduceIte, Nat.reduceEqDiff, Nat.reduceAdd, Nat.reduceLT, Nat.reduceLeDiff, reduceCtorEq, Int.toNat_natCast, e0, w1, q1', hk0, wB, hg0', hg2']
    refine hK _ _ _ ?_; clear hE hK K E
    refine Bf ?_
    refine AWP.skip ?_
    refine Ev ?_
    have hd : actG v log g a = methG v log g a := by unfold actG methG; rw [if_neg h11, if_neg (by simp [hk1, hk2]), if_neg (by simp [hg0, hg2])]
    rw [hd]
    refine AWP.seqReg (by kernel_rfl) (fun E K hE hK => ?_); simp -implicitDefEqProofs only [go_sem, ↓reduceIte, Nat.reduceEqDiff, Nat.reduceAdd, Nat.reduceLT, Nat.reduceLeDiff, reduceCtorEq, Int.toNat_natCast, e3, hA, encA]
    refine CallR.use hmc hmb ?_
    rintro _ h2 ⟨rfl, hw2, ho2⟩
    have hb2 : h2 (b + 1) = some ⟨0, [.p (.v (.int .i64 0)), .p (.v (.int .u64 0)), .p (.v (.float .f64 0)), .p (.v (.slice none 0 0)), .p (.v (.slice none 0 0))]⟩ := (ho2 (b + 1) (by omega) (by omega) (by omega)).trans hR
    refine Evf (jn2 @e4 @hb2) ?_
    refine hK _ _ _ ?_; clear hE hK K E
    refine AWP.ret ?_
    refine Ev ?_
    exact fin _ h1 h2 _ (b + 2) _ _ _ _ _ (Nat.le_refl _) ho ⟨rfl, hw2, ho2⟩ (by exact Erf @e4)
end Go.Proofs.YtihgnpboabpchaaGreatDoor
namespace Go.Proofs.YtihgnpboabpchaaGreatDoor
set_option linter.unusedSimpArgs false
set_option linter.unusedVariables false
set_option linter.unnecessarySimpa false
open Go Am
instance (a : Ac) : Decidable (okA a) := by unfold okA; exact inferInstance
def runM (m : Md) : List Ac → Md × List Rp × Bool
  | [] => (m, [], true)
  | a :: l => if okA a then ((runM (doM m a).1 l).1, (doM m a).2 :: (runM (doM m a).1 l).2.1, (runM (doM m a).1 l).2.2) else (m, [], false)
def stepM (m : Md) (a : Ac) : Md := if okA a then (doM m a).1 else m
theorem okA_who {a : Ac} (h : okA a) : a.who.toNat < 64 := by obtain ⟨h1, h2, _⟩ := h; omega
theorem gAt_do {U : List S} {k : Nat} {m : Md} (o : OKM U k m) {a : Ac} (h : okA a) : gAt (doM m a).1 a.who.toNat = (actG m.v m.log (gAt m a.who.toNat) a).2.2.1 := by
  have := okA_who h
  have hl : a.who.toNat < m.g.length := by rw [o.gs]; exact this
  unfold gAt doM
  simp only [List.getD_eq_getElem?_getD, List.getElem?_set_self hl, Option.getD_some]
  rfl
theorem gAt_ne {m : Md} {a : Ac} {i : Nat} (h : i ≠ a.who.toNat) : gAt (doM m a).1 i = gAt m i := by
  unfold gAt doM
  simp only [List.getD_eq_getElem?_getD, List.getElem?_set_ne (fun e => h e.symm)]
theorem act_same {v : Vw} {log : List Dn} {g : Gs} {a : Ac} (h : a.kind ≠ 9) : (actG v log g a).1 = v ∧ (actG v log g a).2.1 = log := by
  unfold actG
  repeat' split
  all_goals first | exact ⟨rfl, rfl⟩ | (rename_i e; exact absurd e h)
structure Alone (v0 : Vw) (log0 : List Dn) (m : Md) : Prop where
  vw : m.v = v0
  lg : m.log = log0
  kind : (gAt m 0).kind = 1
  base : (gAt m 0).base = v0
def lookK (k : Int) : Prop := k = 6 ∨ k = 7 ∨ k = 8
def lkG (g : Gs) (a : Ac) : Gs × Rp := if g.kind = 0 then (g, errR 10) else if a.kind = 8 then listG g a else lookG g a
theorem act_look {v : Vw} {log : List Dn} {g : Gs} {a : Ac} (h : lookK a.kind) : actG v log g a = (v, log, (lkG g a).1, (lkG g a).2) := by
  have hs : snapK a.kind = true := by rcases h with h | h | h <;> rw [h] <;> rfl
  have h1 : a.kind ≠ 11 ∧ ¬ (a.kind = 1 ∨ a.kind = 2) ∧ a.kind ≠ 3 ∧ a.kind ≠ 4 ∧ a.kind ≠ 5 ∧ a.kind ≠ 9 := by rcases h with h | h | h <;> rw [h] <;> decide
  obtain ⟨n1, n2, n3, n4, n5, n6⟩ := h1
  unfold actG lkG
  rw [if_neg n1, if_neg n2, hs]
  by_cases hg : g.kind = 0
  · rw [if_pos (.inl hg), if_pos hg]
  · rw [if_neg (by rintro (e | ⟨_, e⟩); exact hg e; cases e), if_neg n3, if_neg n4, if_neg n5, if_neg n6, if_neg hg]
    by_cases h8 : a.kind = 8
    · rw [if_neg (by omega), if_pos h8, if_pos h8]
    · rw [if_pos (by rcases h with h | h | h; exact .inl h; exact .inr h; exact absurd h h8), if_neg h8]
theorem do_look {m : Md} {a : Ac} (h : lookK a.kind) : doM m a = (⟨m.v, m.g.set a.who.toNat (lkG (gAt m a.who.toNat) a).1, m.log⟩, (lkG (gAt m a.who.toNat) a).2) := by
  unfold doM; rw [act_look h]
theorem begin_at {U : List S} {k : Nat} {m : Md} (o : OKM U k m) (i : Int) (hi : 0 ≤ i ∧ i < 64) (c : Int) (hc : c = 1 ∨ c = 2) (p q : S) (r : Nat) (d : S) :
    (doM (doM m ⟨i, 10, [], [], 0, []⟩).1 ⟨i, c, p, q, r, d⟩).1.v = m.v ∧ (doM (doM m ⟨i, 10, [], [], 0, []⟩).1 ⟨i, c, p, q, r, d⟩).1.log = m.log ∧ gAt (doM (doM m ⟨i, 10, [], [], 0, []⟩).1 ⟨i, c, p, q, r, d⟩).1 i.toNat = ⟨c, m.v, m.v, [], [], []⟩ := by
  have e1 : okA ⟨i, 10, [], [], 0, []⟩ := ⟨hi.1, hi.2, by show (1 : Int) ≤ 10; decide, by show (10 : Int) ≤ 11; decide⟩
  have hgd := gAt_do o e1
  have a1 : (gAt (doM m ⟨i, 10, [], [], 0, []⟩).1 i.toNat).kind = 0 := by
    rw [hgd]
    unfold actG
    rw [if_neg (by show ¬ (10 : Int) = 11; decide), if_neg (by show ¬ ((10 : Int) = 1 ∨ (10 : Int) = 2); decide)]
    split
    · rename_i h
      rcases h with h | h
      · exact h
      · exact absurd h.2 (by show ¬ snapK 10 = false; decide)
    · rfl
  have v1 := act_same (v := m.v) (log := m.log) (g := gAt m i.toNat) (a := ⟨i, 10, [], [], 0, []⟩) (by show (10 : Int) ≠ 9; decide)
  have hv1 : (doM m ⟨i, 10, [], [], 0, []⟩).1.v = m.v := v1.1
  have hl1 : (doM m ⟨i, 10, [], [], 0, []⟩).1.log = m.log := v1.2
  have hg1 : (doM m ⟨i, 10, [], [], 0, []⟩).1.g.length = 64 := by show (m.g.set _ _).length = 64; rw [List.length_set]; exact o.gs
  generalize (doM m ⟨i, 10, [], [], 0, []⟩).1 = m1 at a1 hv1 hl1 hg1
  have g2 : gAt (doM m1 ⟨i, c, p, q, r, d⟩).1 i.toNat = ⟨c, m1.v, m1.v, [], [], []⟩ := by
    unfold gAt doM
    simp only [List.getD_eq_getElem?_getD]
    rw [List.getElem?_set_self (by omega), Option.getD_some]
    unfold actG
    rw [if_neg (by show ¬ c = 11; omega), if_pos hc, if_neg (by
      have : (m1.g[i.toNat]?.getD zG).kind = 0 := by
        unfold gAt at a1; rw [List.getD_eq_getElem?_getD] at a1; exact a1
      simp [gAt, List.getD_eq_getElem?_getD, this])]
  have v2 := act_same (v := m1.v) (log := m1.log) (g := gAt m1 i.toNat) (a := ⟨i, c, p, q, r, d⟩) (by show c ≠ 9; omega)
  exact ⟨v2.1.trans hv1, v2.2.trans hl1, by rw [g2, hv1]⟩
end Go.Proofs.YtihgnpboabpchaaGreatDoor
namespace Go.Proofs.YtihgnpboabpchaaGreatDoor
set_option linter.unusedSimpArgs false
set_option linter.unusedVariables false
set_option linter.unnecessarySimpa false
open Go Am
set_option maxRecDepth 100000
theorem VOK.sz {U : List S} {v : Vw} (o : VOK U v) (hU : U.length ≤ 253) : sizeV v.l :=
  ⟨by have := o.len; omega, fun x hx => by have := (o.mem x hx).2.2; omega⟩
theorem VOK.pre {U : List S} {v : Vw} (o : VOK U v) : ∀ x ∈ v.l, chkN x.name = 0 := fun x hx => (o.mem x hx).2.1
theorem size_check {l : List Dn} (h : checkX l = 0) : sizeD l := by
  unfold checkX at h
  by_cases h1 : 1024 < l.length
  · rw [if_pos h1] at h; cases h
  rw [if_neg h1] at h
  by_cases h2 : ckF 0 l = true
  · refine ⟨by omega, fun d hd => ?_⟩
    have := (ckF_gt h2 d hd).2.2
    simp only [risesX, Bool.and_eq_true, decide_eq_true_eq] at this
    omega
  · rw [if_neg h2] at h; cases h
theorem aPre_ok {U : List S} {k : Nat} {m : Md} {a : Ac} (o : OKM U k m) (hU : U.length ≤ 253) (hk : k ≤ 1024) (ha : okA a) (had : a.data.length ≤ 1000000) {g : Gs} (hg : g ∈ m.g) : APre m.v m.log g a := by
  have hv := o.v.len
  have hz := size_check o.log
  have hw : IntKind.u64.wrap (m.v.gen + 1) = m.v.gen + 1 := by
    have := o.gen; have := o.len
    rw [show IntKind.u64.wrap (m.v.gen + 1) = (m.v.gen + 1) % 18446744073709551616 by simp [IntKind.wrap, IntKind.bits, IntKind.signed]]
    omega
  rcases o.g g hg with rfl | og
  · exact ⟨⟨Ris.nil, ⟨by simp [zG, zV], fun x h => (by cases h)⟩, fun x h => (by cases h), Ris.nil, fun x h => (by cases h), by decide, Ris.nil, fun x h => (by cases h), by decide⟩, ⟨hz, by have := o.len; omega, by decide, by decide, by decide, o.v.sz hU, o.v.ris, o.v.pre, by show m.v.l.length + 0 ≤ 900000; omega, hw⟩, Ris.nil, fun x h => (by cases h), by decide, by decide, had, ha.2.2⟩
  · have h1 := og.now.len; have h2 := og.writes.len; have h3 := og.names.len; have h4 := og.dirs.len
    exact ⟨⟨og.now.ris, og.now.sz hU, og.now.pre, og.writes.ris, fun x h => .inr (og.writes.mem x h).2, by omega, og.names.ris, fun x h => .inr (og.names.mem x h).2, by omega⟩, ⟨hz, by have := o.len; omega, by omega, by omega, by omega, o.v.sz hU, o.v.ris, o.v.pre, by omega, hw⟩, og.dirs.ris, fun x h => (og.dirs.mem x h).2, by omega, by omega, had, ha.2.2⟩
end Go.Proofs.YtihgnpboabpchaaGreatDoor
namespace Go.Proofs.YtihgnpboabpchaaGreatDoor.Am
set_option linter.unusedSimpArgs false
set_option linter.unusedVariables false
set_option linter.unnecessarySimpa false
open Go
section
variable {P : Program} {C : Ctx} {S : List Tmp} {V : List AV} {hS : Heap} {ops : Array Oper}
def cutK (P : Program) (C : Ctx) (S : List Tmp) (V : List AV) (ops : Array Oper) (k0 : Nat) (K : FinT) (t : Nat → AV) (h : Heap) (n : Nat) : Prop :=
  ∃ hS2, Sub hS2 h ∧ evD P C S V hS2 ops (opsAt ops (List.range' k0 (ops.size - k0))) t h n K
theorem evD_any2 (k0 : Nat) (hk0 : k0 ≤ ops.size) (hC : ∀ i j, k0 ≤ i → i < ops.size → j < k0 → waits ops ops.size i j = true) (hB : drawB S ops = true) (hN : ∀ (i : Nat) (o : Oper), ops[i]? = some o → dstOK C.N o.dst) {Q : Exit → Act → World → Prop} (K : FinT) (hK : ∀ t h n ι a w, K t h n → Inv C ι ⟨t, h, n⟩ a w → Q .normal a w) :
    ∀ (m : Nat) (R : List Nat) (listed : Array Bool) (t : Nat → AV) (h : Heap) (n : Nat) (ι : Nat → Nat) (a : Act) (w : World), R.length = m → listed.size = ops.size → R.Pairwise (· < ·) → (∀ i ∈ R, i < k0) → (∀ i, (i ∈ R ∨ k0 ≤ i ∧ i < ops.size) ↔ i < ops.size ∧ listed.getD i true = false) →
      (∀ (k : Nat) (ok : Oper), ops[k]? = some ok → listed.getD k true = true → ∀ e ∈ ok.after, Region.binds .any e = true → listed.getD e.on true = true) →
      Inv C ι ⟨t, h, n⟩ a w → Sub hS h → evD P C S V hS ops (opsAt ops R) t h n (cutK P C S V ops k0 K) → wpAny P .any ops Q (m + (ops.size - k0)) listed a w := by
  intro m
  induction m with
  | zero =>
    intro R listed t h n ι a w hm hsz _ _ hR hcl I hs e
    have : R = [] := List.eq_nil_of_length_eq_zero hm
    subst this
    obtain ⟨hS2, hs2, e2⟩ : cutK P C S V ops k0 K t h n := e
    rw [Nat.zero_add]
    refine evD_any (hS := hS2) hB hN K hK (ops.size - k0) (List.range' k0 (ops.size - k0)) listed t h n ι a w (by simp) hsz List.pairwise_lt_range' (fun i => ?_) hcl I hs2 e2
    rw [← hR i, List.mem_range'_1]
    constructor
    · intro q; exact .inr ⟨q.1, by omega⟩
    · rintro (q | q)
      · cases q
      · exact ⟨q.1, by omega⟩
  | succ m ih =>
    intro R listed t h n ι a w hm hsz hord hlt0 hR hcl I hs e
    rw [show m + 1 + (ops.size - k0) = (m + (ops.size - k0)) + 1 by omega]
    refine ⟨fun h0 => ?_, fun i hi => ?_⟩
    · -- the first one of the text may come up
      exfalso
      cases R with
      | nil => simp at hm
      | cons i0 R' =>
        obtain ⟨hi0, hl0⟩ := (hR i0).1 (by simp)
        have hi0k := hlt0 i0 (by simp)
        have hop : ops[i0]? = some ops[i0] := Array.getElem?_eq_getElem hi0
        have : i0 ∈ Region.ready .any ops listed := by
          refine mem_ready.2 ⟨hl0, ops[i0], hop, fun e he hb => ?_⟩
          have hlt := (drawB_spec hB hop).1 e he hb
          have hnot : ¬ (e.on ∈ i0 :: R' ∨ k0 ≤ e.on ∧ e.on < ops.size) := by
            rintro (hmem | hmem)
            · rcases List.mem_cons.1 hmem with h1 | h1
              · omega
              · have := (List.pairwise_cons.1 hord).1 _ h1; omega
            · omega
          rw [hR] at hnot
          have h3 : listed.getD e.on true = true := by
            cases hh : listed.getD e.on true with
            | true => rfl
            | false => exact absurd ⟨by omega, hh⟩ hnot
          rw [← listed_true (by omega)]
          exact h3
        rw [h0] at this
        cases this
    · obtain ⟨hli, oi, hoi, hall⟩ := mem_ready.1 hi
      have hilt : i < ops.size := (Array.getElem?_eq_some_iff.1 hoi).1
      have hall0 : ∀ e ∈ oi.after, Region.binds .any e = true → listed.getD e.on true = true := fun e he hb => by
        have h1 := hall e he hb
        rcases Nat.lt_or_ge e.on listed.size with hlt | hge
        · rw [listed_true hlt]; exact h1
        · simp [Array.getElem?_eq_none hge] at h1
      have hiR : i ∈ R := by
        rcases (hR i).2 ⟨hilt, hli⟩ with q | q
        · exact q
        · exfalso
          cases R with
          | nil => simp at hm
          | cons i0 R' =>
            have h1 := waits_listed hcl ops.size i i0 oi hoi hall0 (hC i i0 q.1 q.2 (hlt0 i0 (by simp)))
            have h2 := ((hR i0).1 (by simp)).2
            rw [h1] at h2
            cases h2
      obtain ⟨R1, R2, rfl⟩ := List.append_of_mem hiR
      obtain ⟨p1, p2, p3⟩ := List.pairwise_append.1 hord
      have hall' : ∀ e ∈ oi.after, Region.binds .any e = true → listed.getD e.on true = true := fun e he hb => by
        have h1 := hall e he hb
        rcases Nat.lt_or_ge e.on listed.size with hlt | hge
        · rw [listed_true hlt]; exact h1
        · simp [Array.getElem?_eq_none hge] at h1
      have hfree : ∀ x ∈ opsAt ops R1, free2 S ops x oi = true := by
        intro x hx
        obtain ⟨j, hj, hxj⟩ := List.mem_filterMap.1 hx
        have hji : j < i := p3 j hj i (by simp)
        rcases (drawB_spec hB hoi).2 j x hji hxj with hw | hf
        · have h1 := waits_listed hcl ops.size i j oi hoi hall' hw
          have h2 := ((hR j).1 (by simp [hj])).2
          rw [h1] at h2
          cases h2
        · exact hf
      have hdst : ∀ x ∈ opsAt ops R1, dstOK C.N x.dst := by
        intro x hx
        obtain ⟨j, _, hxj⟩ := List.mem_filterMap.1 hx
        exact hN j x hxj
      have hsplit : opsAt ops (R1 ++ i :: R2) = opsAt ops R1 ++ oi :: opsAt ops R2 := by
        unfold opsAt
        rw [List.filterMap_append, List.filterMap_cons, hoi]
      rw [hsplit] at e
      have e := evD_first (opsAt ops R1) hfree hdst I hs e
      have happ : opsAt ops R1 ++ opsAt ops R2 = opsAt ops (R1 ++ R2) := by unfold opsAt; rw [List.filterMap_append]
      rw [happ] at e
      have hlen : (R1 ++ R2).length = m := by simp at hm ⊢; omega
      have hord' : (R1 ++ R2).Pairwise (· < ·) := List.pairwise_append.2 ⟨p1, (List.pairwise_cons.1 p2).2, fun x hx y hy => p3 x hx y (by simp [hy])⟩
      have hni : i ∉ R1 ++ R2 := by
        intro hmem
        rcases List.mem_append.1 hmem with h1 | h1
        · have := p3 i h1 i (by simp); omega
        · have := (List.pairwise_cons.1 p2).1 i h1; omega
      have hik0 : i < k0 := hlt0 i (by simp)
      have hlt' : ∀ k ∈ R1 ++ R2, k < k0 := fun k hk => hlt0 k (by
        rcases List.mem_append.1 hk with q | q
        · exact List.mem_append.2 (.inl q)
        · exact List.mem_append.2 (.inr (List.mem_cons_of_mem _ q)))
      have hR' : ∀ k, (k ∈ R1 ++ R2 ∨ k0 ≤ k ∧ k < ops.size) ↔ k < ops.size ∧ (listed.setIfInBounds i true).getD k true = false := by
        intro k
        rw [getD_set]
        by_cases hik : i = k
        · subst hik
          rw [if_pos rfl]
          exact ⟨fun hmem => by rcases hmem with q | q; exact absurd q hni; omega, fun hh => by cases hh.2⟩
        · rw [if_neg hik, ← hR k]
          simp only [List.mem_append, List.mem_cons]
          exact ⟨fun hh => by rcases hh with (hh | hh) | hh; exact .inl (.inl hh); exact .inl (.inr (.inr hh)); exact .inr hh, fun hh => by rcases hh with (hh | hh | hh) | hh; exact .inl (.inl hh); exact absurd hh.symm hik; exact .inl (.inr hh); exact .inr hh⟩
      have hcl' : ∀ (k : Nat) (ok : Oper), ops[k]? = some ok → (listed.setIfInBounds i true).getD k true = true → ∀ e ∈ ok.after, Region.binds .any e = true → (listed.setIfInBounds i true).getD e.on true = true := by
        intro k ok hk hl e he hb
        rw [getD_set] at hl ⊢
        split
        · rfl
        · by_cases hik : i = k
          · subst hik
            rw [hoi] at hk
            injection hk with hk
            subst hk
            exact hall' e he hb
          · rw [if_neg hik] at hl
            exact hcl k ok hk hl e he hb
      have next : ∀ (v : Value) (av : AV) (h' : Heap) (n' : Nat) (ι' : Nat → Nat) (w' : World), Sub hS h' → evD P C S V hS ops (opsAt ops (R1 ++ R2)) (putT t oi.dst av) h' n' (cutK P C S V ops k0 K) → Inv C ι' ⟨t, h', n'⟩ a w' → RAV ι' h' (C.b + n') w' av v →
          wpAny P .any ops Q (m + (ops.size - k0)) (listed.setIfInBounds i true) (a.put oi.dst v) w' := by
        intro v av h' n' ι' w' hs' e' I' hr
        exact ih (R1 ++ R2) _ _ h' n' ι' _ w' hlen (by simpa using hsz) hord' hlt' hR' hcl' (I'.put (hN i oi hoi) hr) hs' e'
      unfold wpOp
      simp only [hoi]
      unfold evD at e
      by_cases hsim : simpleP S oi = true
      · rw [if_pos hsim] at e
        obtain ⟨av, hv, okv, e⟩ := e
        unfold valD at hv
        split at hv
        · rename_i hwant
          rw [wanted_ok I hN hwant, if_pos rfl]
          refine .inl ?_
          split at hv
          · obtain ⟨v, w', h1, I', h2⟩ := sopX_ok (P := P) I (sopX_mono hs hv)
            unfold Oper.wp
            rw [h1, Oper.upon_value]
            exact next v av h n ι w' hs e I' h2
          · rename_i hsb
            have p : PureC P hS t oi.op av := by
              rcases okv with okv | okv | okv
              · exact absurd okv hsb
              · rw [hwant] at okv; cases okv
              · exact okv
            exact pure_wp (C := C) (n := n) hs p a w ι I _ Q (fun _ _ _ _ _ hf _ => hf.elim) (fun v av' h' n' ι' w' hk hI hr => by
              obtain ⟨rfl, rfl, rfl⟩ := hk
              exact next v _ _ _ ι' w' hs e hI hr)
        · rename_i hwant
          rw [wanted_ok I hN hwant, if_neg (by simp)]
          injection hv with hv
          subst hv
          exact next undef _ h n ι w hs e I (rav_v _)
        · cases hv
      · rw [if_neg hsim] at e
        unfold sigD at e
        split at e
        · rename_i hwant
          rw [wanted_ok I hN hwant, if_pos rfl]
          refine .inl ?_
          exact aop_ok e a w ι I _ Q (fun _ _ _ _ _ hf _ => hf.elim) (fun v av h' n' ι' w' hk hI hr => next v av h' n' ι' w' hk.1 hk.2 hI hr)
        · rename_i hwant
          rw [wanted_ok I hN hwant, if_neg (by simp)]
          exact next undef _ h n ι w hs e I (rav_v _)
        · exact e.elim
def cutB (k0 : Nat) (ops : Array Oper) : Bool := decide (k0 ≤ ops.size) && (List.range ops.size).all fun i => decide (i < k0) || (List.range k0).all fun j => waits ops ops.size i j
theorem ops_take (ops : Array Oper) : ∀ n, n ≤ ops.size → opsAt ops (List.range n) = ops.toList.take n := by
  intro n
  unfold opsAt
  induction n with
  | zero => simp
  | succ n ih =>
    intro hn
    rw [List.range_succ, List.filterMap_append, ih (by omega), List.take_add_one]
    congr 1
    have : ops[n]? = some ops[n] := Array.getElem?_eq_getElem (by omega)
    simp [this]
theorem ops_drop (ops : Array Oper) (k : Nat) (hk : k ≤ ops.size) : opsAt ops (List.range' k (ops.size - k)) = ops.toList.drop k := by
  have h1 := ops_take ops ops.size (Nat.le_refl _)
  have h2 := ops_take ops k hk
  have e : List.range ops.size = List.range k ++ List.range' k (ops.size - k) := by
    have := List.range'_append_1 (s := 0) (m := k) (n := ops.size - k)
    rw [Nat.zero_add] at this
    rw [List.range_eq_range', List.range_eq_range', this]
    congr 1; omega
  rw [e] at h1
  unfold opsAt at h1 h2 ⊢
  rw [List.filterMap_append, h2] at h1
  have h3 : (ops.toList.take ops.size) = ops.toList.take k ++ ops.toList.drop k := by
    rw [List.take_append_drop, List.take_of_length_le (by simp)]
  rw [h3] at h1
  exact List.append_cancel_left h1
theorem AWP.regionC (k0 : Nat) {Q : Exit → St → Prop} {s : St} {id : Nat} (hm : P.follows .mixedOrders = true) (hB : drawB S ops = true) (hC : cutB k0 ops = true) (hN : dstsB C.N ops.toList = true) (hs : Sub hS s.h)
    (e : evD P C S V hS ops (ops.toList.take k0) s.t s.h s.n (fun t h n => ∃ hS2, Sub hS2 h ∧ evD P C S V hS2 ops (ops.toList.drop k0) t h n (fun t h n => Q .normal ⟨t, h, n⟩))) (hr : C.x.rd = none := by rfl) : AWP P C (.region id ops true) Q s := by
  refine AWP.of_wp hr (fun a w ι I => ?_)
  refine wp_region_any hm ?_
  have hN' : ∀ (i : Nat) (o : Oper), ops[i]? = some o → dstOK C.N o.dst := by
    intro i o hi
    have := List.all_eq_true.1 hN o (List.mem_of_getElem? (i := i) (by simpa using hi))
    unfold dstOK
    cases hdd : o.dst with
    | none => trivial
    | some d => rw [hdd] at this; simpa using this
  unfold cutB at hC
  simp only [Bool.and_eq_true, decide_eq_true_eq, List.all_eq_true, List.mem_range, Bool.or_eq_true] at hC
  obtain ⟨hk, hC⟩ := hC
  have := evD_any2 (S := S) (V := V) (hS := hS) (Q := fun e a' w' => ∃ s' ι', Q e s' ∧ Inv C ι' s' a' w') k0 hk (fun i j h1 h2 h3 => (hC i h2).resolve_left (by omega) j h3) hB hN' (fun t h n => Q .normal ⟨t, h, n⟩) (fun t h n ι' a' w' hk I' => ⟨_, ι', hk, I'⟩) k0 (List.range k0) (Array.replicate ops.size false) s.t s.h s.n ι a { w with drawn := w.drawn + 1 }
    (by simp) (by simp) List.pairwise_lt_range (fun i hi => List.mem_range.1 hi) (fun i => by
      simp only [List.mem_range]
      constructor
      · intro hi; exact ⟨by omega, by simp [Array.getD, show i < ops.size by omega]⟩
      · intro hi; omega) (fun k ok hk hl => by
      have hlt : k < ops.size := (Array.getElem?_eq_some_iff.1 hk).1
      simp [Array.getD, hlt] at hl) I.drew hs (by
      rw [ops_take ops k0 hk]
      refine evD_mono _ _ _ _ (fun t h n k => ?_) e
      unfold cutK
      rw [ops_drop ops k0 hk]
      exact k)
  rw [show k0 + (ops.size - k0) = ops.size by omega] at this
  exact this
theorem evD_ops {S : List Tmp} {V : List AV} {hS : Heap} : ∀ (l : List Oper) (t : Nat → AV) (h : Heap) (n : Nat) (K : FinT), (∀ o ∈ l, o.guard = none) → evD P C S V hS #[] l t h n K → evD P C S V hS ops l t h n K := by
  intro l
  induction l with
  | nil => intro t h n K _ e; exact e
  | cons o l ih =>
    intro t h n K hgl e
    have hgo : o.guard = none := hgl o (by simp)
    have hw : ∀ (os : Array Oper) t, wantD os t o = some true := by intro os t; unfold wantD; rw [hgo]
    unfold evD at e ⊢
    split at e
    · rename_i hs
      rw [if_pos hs]
      obtain ⟨v, hv, ok, e⟩ := e
      refine ⟨v, ?_, ?_, ih _ _ _ _ (fun o ho => hgl o (by simp [ho])) e⟩
      · unfold valD at hv ⊢
        rw [hw] at hv ⊢
        exact hv
      · unfold okD at ok ⊢
        rw [hw] at ok ⊢
        exact ok
    · rename_i hs
      rw [if_neg hs]
      unfold sigD at e ⊢
      rw [hw] at e ⊢
      exact aop_mono (fun v h' n' ⟨s, e⟩ => ⟨s, ih _ _ _ _ (fun o ho => hgl o (by simp [ho])) e⟩) e
def Part2 (P : Program) (C : Ctx) (S : List Tmp) (V : List AV) (l : List Oper) (K : FinT) (t : Nat → AV) (h : Heap) (n : Nat) : Prop := ∃ hS2, Sub hS2 h ∧ evD P C S V hS2 #[] l t h n K
theorem P2 {P : Program} {C : Ctx} {S : List Tmp} {V : List AV} {l : List Oper} {K : FinT} {t : Nat → AV} {h : Heap} {n : Nat} (hS2 : Heap) (s : Sub hS2 h) (e : evD P C S V hS2 #[] l t h n K) : Part2 P C S V l K t h n := ⟨hS2, s, e⟩
theorem AWP.seqRegC (k0 : Nat) (S : List Tmp) (V : List AV) {P : Program} {C : Ctx} {Q : Exit → St → Prop} {s : St} {id : Nat} {ops : Array Oper} {y : Code} (hS : Heap) (hsub : Sub hS s.h) (hm : P.follows .mixedOrders = true) (hB : drawB S ops = true) (hC : cutB k0 ops = true) (hN : dstsB C.N ops.toList = true)
    (e : ∀ K : FinT, (∀ t h n, AWP P C y Q ⟨t, h, n⟩ → K t h n) → evD P C S V hS #[] (ops.toList.take k0) s.t s.h s.n (Part2 P C S V (ops.toList.drop k0) K)) (hg : (ops.all fun o => o.guard.isNone) = true) (hr : C.x.rd = none := by rfl) : AWP P C (.seq (.region id ops true) y) Q s := by
  have hgo : ∀ o ∈ ops.toList, o.guard = none := fun o ho => by
    have := Array.all_eq_true_iff_forall_mem.1 hg o (by simpa using ho)
    simpa using this
  refine .seq (AWP.regionC (V := V) k0 hm hB hC hN hsub ?_ hr)
  refine evD_ops _ _ _ _ _ (fun o ho => hgo o (List.mem_of_mem_take ho)) ?_
  refine evD_mono _ _ _ _ (fun t h n k => ?_) (e _ (fun t h n k => k))
  obtain ⟨hS2, s2, k⟩ := k
  exact ⟨hS2, s2, evD_ops _ _ _ _ _ (fun o ho => hgo o (List.mem_of_mem_drop ho)) k⟩
end
end Go.Proofs.YtihgnpboabpchaaGreatDoor.Am
namespace Go.Proofs.YtihgnpboabpchaaGreatDoor
set_option linter.unusedSimpArgs false
set_option linter.unusedVariables false
set_option linter.unnecessarySimpa false
open Go Am
set_option maxRecDepth 100000
theorem clone_gs_ok (es : List (List PD)) (ho : okEs 8 es) (h : Heap) (b : Nat) (hl : es.length ≤ 1000000000) :
    ACalls Tryz.prog 93 [.one (.p (.sl 8 es))] h b 1 (rowR 8 es h b) := by
  refine ACalls.enter Tryz.func93 rfl (by simp [Tryz.ntmps93]) (fun ι w hn H => ?_)
  refine Rk ?_
  refine AWP.seq ?_
  refine Rg (fun E K hE hK => ?_)
  refine EqlR.nil_sl rfl (.inl rfl) (fun g hg => ?_)
  refine Ev ?_
  refine hK _ _ _ ?_; clear hE hK K E
  cases g
  · refine AWP.ifF (by exact Ec) ?_
    refine AWP.skip ?_
    refine Ev ?_
    refine Rg (fun E K hE hK => ?_)
    refine BiR.of ?_
    refine BiK.append_own (e := 51) (sz := 8) (bytes := 144) (m := es.length) (xs := es.flatten.map .p) ty_slE_29 ty_tsz_51 ty_tzero_51 rfl ty_tby_51 ty_isIntT_29 (upd_same _ _ _) rfl rfl (by simp [srcA]) (okEs_flat ho _) (by omega) (by decide) (by omega) (fun cap k h1 h2 => ?_)
    refine Ev ?_
    refine hK _ _ _ ?_; clear hE hK K E
    refine AWP.ret ?_
    refine Ev ?_
    refine Ends.row (id := b) (blk := ⟨1, es.flatten.map .p ++ List.replicate k .junk⟩) hn H (lowEq_upd (Nat.le_refl _) (fun _ _ => rfl)) (Nat.le_refl _) (upd_same _ _ _) (lowCs_app (lowCs_p _ _) (lowCs_junk _ _))
      (by rw [show Tryz.f93.results.toList = [.tmp 2] from rfl]; exact Ec) (renV.win0 _ _ _ _) ⟨1, cap, List.replicate k .junk, by omega, by rw [List.length_replicate]; omega, lowCs_junk _ _, rfl, rfl⟩
  · have he := hg rfl
    subst he
    refine AWP.ifT (by exact Ec) ?_
    refine Rk ?_
    refine AWP.virt 2 (by exact Ec) ?_
    refine AWP.ret ?_
    refine Ev ?_
    refine Ends.row (id := b) (blk := ⟨0, []⟩) hn H (lowEq_upd (Nat.le_refl _) (fun _ _ => rfl)) (Nat.le_refl _) (upd_same _ _ _) rfl
      (by rw [show Tryz.f93.results.toList = [.tmp 2] from rfl]; exact Ec) (renV.win0 _ _ _ _) ⟨0, 0, [], Nat.le_refl _, rfl, rfl, rfl, rfl⟩
end Go.Proofs.YtihgnpboabpchaaGreatDoor
namespace Go.Proofs.YtihgnpboabpchaaGreatDoor
set_option linter.unusedSimpArgs false
set_option linter.unusedVariables false
set_option linter.unnecessarySimpa false
open Go Am
set_option maxRecDepth 100000
structure SzM (m : Md) : Prop where
  v : sizeV m.v.l
  n : m.g.length = 64
  g : ∀ g ∈ m.g, sizeV g.base.l ∧ sizeV g.now.l ∧ g.writes.length ≤ 1000000 ∧ g.names.length ≤ 1000000 ∧ g.dirs.length ≤ 1000000
  log : sizeD m.log
def allR (m : Md) (h : Heap) (b : Nat) (r : AV) (h' : Heap) : Prop :=
  ∃ ver cap T, m.g.length ≤ cap ∧ cap * 8 = m.g.length * 8 + T.length ∧ lowCs 0 T = true ∧ r = .agg [.p (.v (.int .u64 m.v.gen)), .p (.sl 3 (m.v.l.map encK)), .win b ver 0 64 cap, .p (.sl 2 (m.log.map encD))] ∧ h' = upd h b (rowB ver (m.g.map encG) T)
def alI (m : Md) (ver1 cap1 : Nat) (T1 : List Cell) (ver2 cap2 : Nat) (T2 : List Cell) (h : Heap) (b : Nat) (st : St) : Prop :=
  st.h b = some ⟨0, [.p (.v (.int .u64 m.v.gen)), .p (.sl 3 (m.v.l.map encK)), .win (b + 2) ver1 0 64 cap1, .win (b + 3) ver2 0 m.log.length cap2]⟩ ∧ st.h (b + 1) = some ⟨0, [.p (.v (.int .u64 0)), .p (.v (.slice none 0 0)), .p (.v (.slice none 0 0)), .p (.v (.slice none 0 0))]⟩ ∧
    st.h (b + 2) = some (rowB ver1 (m.g.map encG) T1) ∧ st.h (b + 3) = some (rowB ver2 (m.log.map encD) T2) ∧ (∀ id, id < b → st.h id = h id) ∧ st.t 1 = .one (.ptr b 0 0) ∧ st.t 2 = .one (.ptr (b + 1) 0 0)
theorem mall_ok (m : Md) (z : SzM m) (h : Heap) (b : Nat) : ACalls Tryz.prog 38 [MdV m] h b 1 (allR m h b) := by
  refine ACalls.enter Tryz.func38 rfl (by simp [Tryz.ntmps38]) (fun ι w hn H => ?_)
  have hlow := H.lowCells
  have hn64 := z.n
  have hv1 := z.v.1
  have hl1 := z.log.1
  have hgm : (m.g.map encG).length = m.g.length := List.length_map _
  have hlm : (m.log.map encD).length = m.log.length := List.length_map _
  refine AWP.seqReg (by kernel_rfl) (fun E K hE hK => ?_); simp -implicitDefEqProofs only [go_sem, ↓reduceIte, Nat.reduceEqDiff, Nat.reduceAdd, Nat.reduceLT, Nat.reduceLeDiff, reduceCtorEq, Int.toNat_natCast, encM]; refine hK _ _ _ ?_; clear hE hK K E
  refine Am.AWP.genT (fun st => st.n = 2 ∧ st.t 1 = .one (.ptr b 0 0) ∧ st.t 2 = .one (.ptr (b + 1) 0 0) ∧ st.h b = some ⟨0, (encM m).map .p⟩ ∧ st.h (b + 1) = some ⟨0, [.p (.v (.int .u64 0)), .p (.v (.slice none 0 0)), .p (.v (.slice none 0 0)), .p (.v (.slice none 0 0))]⟩ ∧ ∀ id, id < b → st.h id = h id) ⟨rfl, by exact Er, by exact Er, by (first | (simp -implicitDefEqProofs only [go_sem, ↓reduceIte, Nat.reduceEqDiff, Nat.reduceAdd, Nat.reduceLT, Nat.reduceLeDiff, reduceCtorEq, Int.toNat_natCast, encM]; first | done | rfl) | rfl), by exact Er, Ou⟩ ?_
  rintro ⟨t, h1, n⟩ ⟨hn1, e1, e2, hM, hR, ho⟩
  simp only at hn1 e1 e2 hM hR ho
  subst hn1
  refine AWP.known (fun hnew => ?_)
  simp only at hnew
  refine AWP.seqRegC 10 [9] [.agg [.p (.v (.int .u64 m.v.gen)), .p (.sl 3 (m.v.l.map encK))]] (h1) (Sub.refl _) mixed (by kernel_rfl) (by kernel_rfl) (by kernel_rfl) (fun K hK => ?_) (by kernel_rfl); simp -implicitDefEqProofs only [go_sem, ↓reduceIte, Nat.reduceEqDiff, Nat.reduceAdd, Nat.reduceLT, Nat.reduceLeDiff, reduceCtorEq, Int.toNat_natCast, List.take_succ_cons, List.take_zero, List.drop_succ_cons, List.drop_zero,  e1, hM, encM]
  refine CallP.use (fun _ _ _ => mownZ_ok m.v z.v _ _) body_92 ?_
  simp -implicitDefEqProofs only [go_sem, ↓reduceIte, Nat.reduceEqDiff, Nat.reduceAdd, Nat.reduceLT, Nat.reduceLeDiff, reduceCtorEq, Int.toNat_natCast, e1, hM, encM]
  refine CallD.use (clone_gs_ok (m.g.map encG) (okEs_gs m.g) _ _ (by omega)) body_93 ?_
  rintro _ _ ⟨ver1, cap1, T1, g1, g2, g3, rfl, rfl⟩
  refine ⟨(Sub.refl _).new (hnew _ (Nat.le_refl _)), ?_⟩
  rw [hgm] at g1 g2 ⊢
  simp -implicitDefEqProofs only [go_sem, ↓reduceIte, Nat.reduceEqDiff, Nat.reduceAdd, Nat.reduceLT, Nat.reduceLeDiff, reduceCtorEq, Int.toNat_natCast, e1, hM, encM]
  refine CallD.use (clone_dn_ok (m.log.map encD) (okEs_dn m.log) _ _ (by omega)) body_94 ?_
  rintro _ _ ⟨ver2, cap2, T2, k1, k2, k3, rfl, rfl⟩
  refine ⟨((Sub.refl _).new (hnew _ (Nat.le_refl _))).new ?_, ?_⟩
  · show upd h1 (b + 2) _ (b + 3) = none
    rw [upd_ne _ _ _ _ (by omega)]; exact hnew _ (by omega)
  rw [hlm] at k1 k2 ⊢
  simp -implicitDefEqProofs only [go_sem, ↓reduceIte, Nat.reduceEqDiff, Nat.reduceAdd, Nat.reduceLT, Nat.reduceLeDiff, reduceCtorEq, Int.toNat_natCast, e1, hM, encM]
  obtain ⟨H2, hH2⟩ : ∃ H2, H2 = upd (upd h1 (b + 2) (rowB ver1 (m.g.map encG) T1)) (b + 3) (rowB ver2 (m.log.map encD) T2) := ⟨_, rfl⟩
  have hM2 : H2 b = some ⟨0, (encM m).map .p⟩ := by rw [hH2]; exact Erf @hM
  have hG2 : H2 (b + 2) = some (rowB ver1 (m.g.map encG) T1) := by rw [hH2]; exact Er
  have hD2 : H2 (b + 3) = some (rowB ver2 (m.log.map encD) T2) := by rw [hH2]; exact Er
  have hR2 : H2 (b + 1) = some ⟨0, [.p (.v (.int .u64 0)), .p (.v (.slice none 0 0)), .p (.v (.slice none 0 0)), .p (.v (.slice none 0 0))]⟩ := by rw [hH2]; exact Erf @hR
  have ho2 : ∀ id, id < b → H2 id = h id := fun id hid => by rw [hH2, upd_ne _ _ _ _ (by omega), upd_ne _ _ _ _ (by omega)]; exact ho id hid
  rw [← hH2]
  refine P2 (ers H2 b) (sub_ers _ _) ?_
  simp -implicitDefEqProofs only [go_sem, ↓reduceIte, Nat.reduceEqDiff, Nat.reduceAdd, Nat.reduceLT, Nat.reduceLeDiff, reduceCtorEq, Int.toNat_natCast, e1, hM2, encM, hG2, hD2]
  refine ⟨sub_at _ hM2, sub_at _ hM2, sub_at _ hM2, ?_⟩
  refine hK _ _ _ ?_; clear hK K
  rw [hn64] at g1 g2
  refine Am.AWP.genT (fun st => st.n = 4 ∧ alI m ver1 cap1 T1 ver2 cap2 T2 h b st) ⟨rfl, upd_same _ _ _ |>.trans (by rw [hn64]), (upd_ne _ _ _ _ (by omega)).trans hR2, (upd_ne _ _ _ _ (by omega)).trans hG2, (upd_ne _ _ _ _ (by omega)).trans hD2, fun id hid => (upd_ne _ _ _ _ (by omega)).trans (ho2 id hid), by exact Erf @e1, by exact Erf @e2⟩ ?_
  clear hM2 hG2 hD2 hR2 ho2 hH2 hM hR ho e1 e2 hnew
  rintro ⟨t, h1, n⟩ ⟨hn1, hM, hR, hG, hD, ho, e1, e2⟩
  simp only at hn1 hM hR hG hD ho e1 e2
  subst hn1
  refine AWP.seq ?_
  refine AWP.seqReg (by kernel_rfl) (fun E K hE hK => ?_); simp -implicitDefEqProofs only [go_sem, ↓reduceIte, Nat.reduceEqDiff, Nat.reduceAdd, Nat.reduceLT, Nat.reduceLeDiff, reduceCtorEq, Int.toNat_natCast, e1, hM, hD, rowB]; refine hK _ _ _ ?_; clear hE hK K E
  have hcl : ∀ i, (hi : i < m.log.length) → ((m.log.map encD).flatten.map Cell.p ++ T2)[i * 2 + 1]? = some (.p (.sl 1 (m.log[i].names.map encS))) ∧ List.take 2 (List.drop (i * 2) ((m.log.map encD).flatten.map Cell.p ++ T2)) = (encD m.log[i]).map .p := by
    intro i hi
    have he : (m.log.map encD)[i]? = some (encD m.log[i]) := by rw [List.getElem?_map, List.getElem?_eq_getElem hi]; rfl
    refine ⟨?_, row_part T2 (okEs_dn m.log) he⟩
    have := row_cells (okEs_dn m.log) ver2 T2 i (encD m.log[i]) he 1 (.sl 1 (m.log[i].names.map encS)) rfl
    rwa [Nat.zero_add] at this
  have hcl2 : ((m.log.map encD).flatten.map Cell.p ++ T2).length = m.log.length * 2 + T2.length := by rw [List.length_append, List.length_map, okEs_len (okEs_dn m.log), hlm]
  refine AWP.block ?_
  refine AWP.loopM 4 (fun k st => ∃ i, i ≤ m.log.length ∧ k = m.log.length - i ∧ alI m ver1 cap1 T1 ver2 cap2 T2 h b st ∧ st.t 20 = .one (.win (b + 3) ver2 0 m.log.length cap2) ∧ st.t 21 = IntV m.log.length ∧ st.t 22 = IntV (i : Nat)) m.log.length rfl ⟨0, Nat.zero_le _, rfl, ⟨hM, hR, hG, hD, ho, by exact Erf @e1, by exact Erf @e2⟩, by exact Er, by exact Er, by exact Er⟩ ?_
  clear hM hR hG hD ho e1 e2
  rintro k ⟨t, hh, n⟩ ⟨i, hi, rfl, ⟨hM, hR, hG, hD, ho, e1, e2⟩, e20, e21, e22⟩ hn1
  simp only at hM hR hG hD ho e1 e2 e20 e21 e22 hn1
  subst hn1
  refine Rkf (jn2 @e21 @e22) ?_
  refine AWP.seq ?_
  by_cases hlt : (i : Int) < m.log.length
  · have hw1 : IntKind.i64.wrap ((i : Int) + 1) = ((i + 1 : Nat) : Int) := by rw [wrap_i64 (by omega) (by omega)]; rfl
    have hi2 : i < m.log.length := by omega
    obtain ⟨hc1, hc2⟩ := hcl i hi2
    obtain ⟨d, hd⟩ : ∃ d, m.log[i] = d := ⟨_, rfl⟩
    rw [hd] at hc1 hc2
    have hdm : d ∈ m.log := by rw [← hd]; exact List.getElem_mem hi2
    have hD' : hh (b + 3) = some ⟨ver2, (m.log.map encD).flatten.map Cell.p ++ T2⟩ := hD
    generalize hL : (m.log.map encD).flatten.map Cell.p ++ T2 = L at hD' hc1 hc2 hcl2
    have hle : i * 2 + 2 ≤ L.length := by omega
    have hsc := same_cell hc1
    refine Btf @hlt ?_
    refine AWP.skip ?_
    refine Ev ?_
    refine AWP.seq ?_
    refine AWP.block ?_
    refine Rgf (jn5 @e20 @e22 @hD' @hlt @hc2) (fun E K hE hK => ?_)
    repeat (refine ⟨by omega, ?_⟩)
    refine hK _ _ _ ?_; clear hE hK K E
    refine AWP.rgD [32] [ListV d.names] [b + 3] mixed (by kernel_rfl) (by kernel_rfl) (fun K hK => ?_) (by kernel_rfl); simp -implicitDefEqProofs only [go_sem, ↓reduceIte, Nat.reduceEqDiff, Nat.reduceAdd, Nat.reduceLT, Nat.reduceLeDiff, reduceCtorEq, Int.toNat_natCast, e1, hM, hD', hlt, hsc]
    refine CallP.use (fun _ _ _ => (clone_str_ok (d.names.map encS) (okEs_str d.names) _ _ (by rw [List.length_map]; have := z.log.2 d hdm; omega)).rowFrz (okEs_str d.names)) body_95 ?_
    refine Evf (jn2 @hD' @hsc) ?_
    refine ⟨⟨by omega, by omega⟩, by omega, sub_at _ (by exact Erf @hD'), ?_⟩
    refine hK _ _ _ ?_; clear hK K
    refine Ev ?_
    refine Raf (jn2 @e22 @hw1) (fun E K hE hK => ?_); refine hK _ _ _ ?_; clear hE hK K E
    refine ⟨(by decide : 4 ≤ 5), m.log.length - (i + 1), by omega, i + 1, by omega, rfl, ⟨cutH_same (Nat.lt_add_of_pos_right (by decide)) (by exact Erf @hM) (by simp [lowCs, lowC]), cutH_same (Nat.add_lt_add_left (by decide) _) (by exact Erf @hR) (by simp [lowCs, lowC]), cutH_same (Nat.add_lt_add_left (by decide) _) (by exact Erf @hG) (lowCs_app (lowCs_p _ _) (lowCs_mono (Nat.zero_le _) g3)), ?_, cutH_outer (Nat.le_add_right _ _) (Ouf @ho) hlow, by refine Evf @e1 ?_; exact cutV_ptr (Nat.lt_add_of_pos_right (by decide)), by refine Evf @e2 ?_; exact cutV_ptr (Nat.add_lt_add_left (by decide) _)⟩, by refine Evf @e20 ?_; exact cutV_win (Nat.add_lt_add_left (by decide) _), by exact Ecf @e21, by exact Er⟩
    rw [← hL]
    exact cutH_same (Nat.add_lt_add_left (by decide) _) (by exact Er) (lowCs_app (lowCs_p _ _) (lowCs_mono (Nat.zero_le _) k3))
  · refine Bff @hlt ?_
    refine AWP.exit ?_
    refine Ev ?_
    refine Am.AWP.genT (fun st => st.n = 4 ∧ alI m ver1 cap1 T1 ver2 cap2 T2 h b st) ⟨rfl, hM, hR, hG, hD, ho, by exact Erf @e1, by exact Erf @e2⟩ ?_
    clear hM hR hG hD ho e1 e2 e20 e21 e22 hlt hi hcl hcl2
    rintro ⟨t, h1, n⟩ ⟨hn1, hM, hR, hG, hD, ho, e1, e2⟩
    simp only at hn1 hM hR hG hD ho e1 e2
    subst hn1
    refine AWP.seq ?_
    refine AWP.seqReg (by kernel_rfl) (fun E K hE hK => ?_); simp -implicitDefEqProofs only [go_sem, ↓reduceIte, Nat.reduceEqDiff, Nat.reduceAdd, Nat.reduceLT, Nat.reduceLeDiff, reduceCtorEq, Int.toNat_natCast, e1, hM, hG, rowB]; refine hK _ _ _ ?_; clear hE hK K E
    have hcl2 : ((m.g.map encG).flatten.map Cell.p ++ T1).length = m.g.length * 8 + T1.length := by rw [List.length_append, List.length_map, okEs_len (okEs_gs m.g), hgm]
    refine AWP.block ?_
    refine AWP.loopM 4 (fun k st => ∃ i, i ≤ 64 ∧ k = 64 - i ∧ alI m ver1 cap1 T1 ver2 cap2 T2 h b st ∧ st.t 37 = .one (.win (b + 2) ver1 0 64 cap1) ∧ st.t 38 = IntV 64 ∧ st.t 39 = IntV (i : Nat)) 64 rfl ⟨0, Nat.zero_le _, rfl, ⟨hM, hR, hG, hD, ho, by exact Erf @e1, by exact Erf @e2⟩, by exact Er, by exact Er, by exact Er⟩ ?_
    clear hM hR hG hD ho e1 e2
    rintro k ⟨t, hh, n⟩ ⟨i, hi, rfl, ⟨hM, hR, hG, hD, ho, e1, e2⟩, e20, e21, e22⟩ hn1
    simp only at hM hR hG hD ho e1 e2 e20 e21 e22 hn1
    subst hn1
    refine Rkf (jn2 @e21 @e22) ?_
    refine AWP.seq ?_
    by_cases hlt : (i : Int) < 64
    · have hw1 : IntKind.i64.wrap ((i : Int) + 1) = ((i + 1 : Nat) : Int) := by rw [wrap_i64 (by omega) (by omega)]; rfl
      have hi2 : i < m.g.length := by omega
      have hpart := gs_at T1 hi2
      have hset := gs_set T1 hi2 m.g[i]
      rw [List.set_getElem_self hi2] at hset
      obtain ⟨g, hg⟩ : ∃ g, m.g[i] = g := ⟨_, rfl⟩
      rw [hg] at hpart hset
      have hdm : g ∈ m.g := by rw [← hg]; exact List.getElem_mem hi2
      obtain ⟨z1, z2, z3, z4, z5⟩ := z.g g hdm
      have hG' : hh (b + 2) = some ⟨ver1, (m.g.map encG).flatten.map Cell.p ++ T1⟩ := hG
      generalize hL : (m.g.map encG).flatten.map Cell.p ++ T1 = L at hG' hpart hset hcl2
      have hle : i * 8 + 8 ≤ L.length := by omega
      refine Btf @hlt ?_
      refine AWP.skip ?_
      refine Ev ?_
      refine AWP.seq ?_
      refine AWP.block ?_
      refine Rgf (jn5 @e20 @e22 @hG' @hlt @hpart) (fun E K hE hK => ?_)
      repeat (refine ⟨by omega, ?_⟩)
      refine hK _ _ _ ?_; clear hE hK K E
      refine AWP.rgD [51, 54, 57, 61, 65] [.agg [.p (.v (.int .u64 g.base.gen)), .p (.sl 3 (g.base.l.map encK))], .agg [.p (.v (.int .u64 g.now.gen)), .p (.sl 3 (g.now.l.map encK))], ListV g.writes, ListV g.names, ListV g.dirs] [b + 2] mixed (by kernel_rfl) (by kernel_rfl) (fun K hK => ?_) (by kernel_rfl); simp -implicitDefEqProofs only [go_sem, ↓reduceIte, Nat.reduceEqDiff, Nat.reduceAdd, Nat.reduceLT, Nat.reduceLeDiff, reduceCtorEq, Int.toNat_natCast, e1, hM, hG', hlt, hset]
      refine CallP.use (fun _ _ _ => mownZ_ok g.base z1 _ _) body_92 ?_
      refine Evf (jn2 @hG' @hset) ?_
      refine CallP.use (fun _ _ _ => mownZ_ok g.now z2 _ _) body_92 ?_
      refine Evf (jn2 @hG' @hset) ?_
      refine CallP.use (fun _ _ _ => (clone_str_ok (g.writes.map encS) (okEs_str g.writes) _ _ (by rw [List.length_map]; omega)).rowFrz (okEs_str g.writes)) body_95 ?_
      refine Evf (jn2 @hG' @hset) ?_
      refine CallP.use (fun _ _ _ => (clone_str_ok (g.names.map encS) (okEs_str g.names) _ _ (by rw [List.length_map]; omega)).rowFrz (okEs_str g.names)) body_95 ?_
      refine Evf (jn2 @hG' @hset) ?_
      refine CallP.use (fun _ _ _ => (clone_str_ok (g.dirs.map encS) (okEs_str g.dirs) _ _ (by rw [List.length_map]; omega)).rowFrz (okEs_str g.dirs)) body_95 ?_
      refine Evf (jn2 @hG' @hset) ?_
      refine ⟨⟨by omega, by omega⟩, by omega, sub_at _ (by exact Erf @hG'), ?_⟩
      refine hK _ _ _ ?_; clear hK K
      refine Ev ?_
      refine Raf (jn2 @e22 @hw1) (fun E K hE hK => ?_); refine hK _ _ _ ?_; clear hE hK K E
      refine ⟨(by decide : 4 ≤ 5), 64 - (i + 1), by omega, i + 1, by omega, rfl, ⟨cutH_same (Nat.lt_add_of_pos_right (by decide)) (by exact Erf @hM) (by simp [lowCs, lowC]), cutH_same (Nat.add_lt_add_left (by decide) _) (by exact Erf @hR) (by simp [lowCs, lowC]), ?_, cutH_same (Nat.add_lt_add_left (by decide) _) (by exact Erf @hD) (lowCs_app (lowCs_p _ _) (lowCs_mono (Nat.zero_le _) k3)), cutH_outer (Nat.le_add_right _ _) (Ouf @ho) hlow, by refine Evf @e1 ?_; exact cutV_ptr (Nat.lt_add_of_pos_right (by decide)), by refine Evf @e2 ?_; exact cutV_ptr (Nat.add_lt_add_left (by decide) _)⟩, by refine Evf @e20 ?_; exact cutV_win (Nat.add_lt_add_left (by decide) _), by exact Ecf @e21, by exact Er⟩
      rw [← hL]
      exact cutH_same (Nat.add_lt_add_left (by decide) _) (by exact Er) (lowCs_app (lowCs_p _ _) (lowCs_mono (Nat.zero_le _) g3))
    · refine Bff @hlt ?_
      refine AWP.exit ?_
      refine Ev ?_
      refine AWP.frzAt b 3 hM rfl ⟨T2, hD, by rw [hlm]; omega, k3⟩ (okEs_dn m.log) hlm (by show ¬ b = b + 3; omega) ?_
      refine Am.AWP.genT (fun st => st.h b = some ⟨0, [.p (.v (.int .u64 m.v.gen)), .p (.sl 3 (m.v.l.map encK)), .win (b + 2) ver1 0 64 cap1, .p (.sl 2 (m.log.map encD))]⟩ ∧ (∃ x y z w, st.h (b + 1) = some ⟨0, [.p x, .p y, .p z, .p w]⟩) ∧ st.h (b + 2) = some (rowB ver1 (m.g.map encG) T1) ∧ (∀ id, id < b → st.h id = h id) ∧ st.t 1 = .one (.ptr b 0 0) ∧ st.t 2 = .one (.ptr (b + 1) 0 0)) ⟨upd_same _ _ _, ⟨_, _, _, _, (upd_ne _ _ _ _ (by omega)).trans ((delH_ne _ _ _ (by omega)).trans hR)⟩, (upd_ne _ _ _ _ (by omega)).trans ((delH_ne _ _ _ (by omega)).trans hG), fun id hid => (upd_ne _ _ _ _ (by omega)).trans ((delH_ne _ _ _ (by omega)).trans (ho id hid)), by exact Erf @e1, by exact Erf @e2⟩ ?_
      clear hM hR hG hD ho e1 e2 e20 e21 e22
      rintro ⟨t, hh, n⟩ ⟨hM, ⟨x, y, zz, ww, hR⟩, hG, ho, e1, e2⟩
      simp only at hM hR hG ho e1 e2
      refine AWP.seqReg (by kernel_rfl) (fun E K hE hK => ?_); simp -implicitDefEqProofs only [go_sem, ↓reduceIte, Nat.reduceEqDiff, Nat.reduceAdd, Nat.reduceLT, Nat.reduceLeDiff, reduceCtorEq, Int.toNat_natCast, e1, e2, hM, hR, hG, rowB]
      refine hK _ _ _ ?_; clear hE hK K E
      refine AWP.ret ?_
      refine Ends.row (id := b + 2) (blk := rowB ver1 (m.g.map encG) T1) hn H (Ouf @ho) (Nat.le_add_right _ _) (by exact Erf @hG) (lowCs_app (lowCs_p _ _) (lowCs_mono (Nat.zero_le _) g3)) (r0 := .agg [.p (.v (.int .u64 m.v.gen)), .p (.sl 3 (m.v.l.map encK)), .win (b + 2) ver1 0 64 cap1, .p (.sl 2 (m.log.map encD))]) (by rw [show Tryz.f38.results.toList = [.cell 2 32] from rfl]; exact Erf @e2) ?_ ⟨ver1, cap1, T1, by omega, by omega, g3, rfl, rfl⟩
      refine .agg rfl (fun i c d hc hd => ?_)
      match i with
      | 0 | 1 | 3 => simp at hc hd; subst hc; subst hd; exact renC_p _
      | 2 => simp at hc hd; subst hc; subst hd; exact renC_win0
      | i + 4 => simp at hc
end Go.Proofs.YtihgnpboabpchaaGreatDoor
namespace Go.Proofs.YtihgnpboabpchaaGreatDoor
set_option linter.unusedSimpArgs false
set_option linter.unusedVariables false
set_option linter.unnecessarySimpa false
def allQ {α : Type} (s : α → α → Bool) : List α → List α → Bool
  | [], [] => true
  | x :: l, y :: m => s x y && allQ s l m
  | _, _ => false
theorem allQ_len {α : Type} {s : α → α → Bool} : ∀ {l m : List α}, l.length ≠ m.length → allQ s l m = false
  | [], [], h => absurd rfl h
  | [], _ :: _, _ => rfl
  | _ :: _, [], _ => rfl
  | x :: l, y :: m, h => by
    show (s x y && allQ s l m) = false
    rw [allQ_len (s := s) (l := l) (m := m) (fun e => h (by rw [List.length_cons, List.length_cons, e]))]
    exact Bool.and_false _
theorem allQ_refl {α : Type} {s : α → α → Bool} : ∀ {l : List α}, (∀ x ∈ l, s x x = true) → allQ s l l = true
  | [], _ => rfl
  | x :: l, h => by
    show (s x x && allQ s l l) = true
    rw [h x List.mem_cons_self, allQ_refl (fun y hy => h y (List.mem_cons_of_mem _ hy))]; rfl
end Go.Proofs.YtihgnpboabpchaaGreatDoor
namespace Go.Proofs.YtihgnpboabpchaaGreatDoor
set_option linter.unusedSimpArgs false
set_option linter.unusedVariables false
set_option linter.unnecessarySimpa false
open Go Am
set_option maxRecDepth 100000
def eqI_kn (g : FuncId) (s : Kn → Kn → Bool) (l m : List Kn) (h : Heap) (b i : Nat) (st : St) : Prop :=
  (∀ id, id < b → st.h id = h id) ∧ st.t 1 = .one (.p (.sl 3 (m.map encK))) ∧ st.t 2 = .one (.clo (.func g) [] []) ∧ st.t 15 = .one (.p (.sl 3 (l.map encK))) ∧ st.t 16 = IntV l.length ∧ st.t 17 = IntV (i : Nat) ∧ allQ s l m = allQ s (l.drop i) (m.drop i)
theorem eqf_kn_ok (g : FuncId) (s : Kn → Kn → Bool) (l m : List Kn) (hl : l.length ≤ 1000000) (h : Heap) (b : Nat) (hg : bodyB Tryz.prog g = true)
    (hc : ∀ x ∈ l, ∀ y ∈ m, ∀ h b, ACalls Tryz.prog g [.agg ((encK x).map .p), .agg ((encK y).map .p)] h b 0 (fun r h' => r = BoolV (s x y) ∧ h' = h)) :
    ACalls Tryz.prog 106 [.one (.p (.sl 3 (l.map encK))), .one (.p (.sl 3 (m.map encK))), .one (.clo (.func g) [] [])] h b 0 (fun r h' => r = BoolV (allQ s l m) ∧ h' = h) := by
  refine ACalls.enter Tryz.func106 rfl (by simp [Tryz.ntmps106]) (fun ι w hn H => ?_)
  have hlow := H.lowCells
  have hlm : (l.map encK).length = l.length := List.length_map _
  have hmm : (m.map encK).length = m.length := List.length_map _
  have fin : ∀ (t : Nat → AV) (hh : Heap) (n : Nat) (v : Bool), t 6 = BoolV v → (∀ id, id < b → hh id = h id) → v = allQ s l m → Am.Ends Tryz.prog ⟨Tryz.f106.ntmps, b, ι, h, w, x0⟩ Tryz.f106 0 (fun r h' => r = BoolV (allQ s l m) ∧ h' = h) ⟨t, hh, n⟩ := by
    intro t hh n v ht ho hv
    exact Ends.pure hn H ho (r0 := BoolV v) (by rw [show Tryz.f106.results.toList = [.tmp 6] from rfl]; exact Ecf @ht) (.v _) ⟨by rw [hv], rfl⟩
  refine Rk ?_
  refine AWP.seq ?_
  by_cases hlen : (l.length : Int) = m.length
  case neg =>
    refine Rkf (jn3 @hlm @hmm @hlen) ?_
    refine Bt ?_
    refine Rk ?_
    refine AWP.ret ?_
    refine Ev ?_
    exact fin _ _ _ false (by exact Er) (fun _ _ => rfl) (allQ_len (by omega)).symm
  refine Rkf (jn3 @hlm @hmm @hlen) ?_
  refine Bs ?_
  refine AWP.seq ?_
  refine Rkf @hlm ?_
  refine AWP.block ?_
  refine AWP.loopM 0 (fun k st => ∃ i, i ≤ l.length ∧ k = l.length - i ∧ eqI_kn g s l m h b i st) l.length rfl ⟨0, Nat.zero_le _, rfl, Ou, by exact Er, by exact Er, by exact Er, by exact Er, by exact Er, rfl⟩ ?_
  rintro k ⟨t, hh, n⟩ ⟨i, hi, rfl, ho, e1, e2, e15, e16, e17, hx⟩ hn1
  simp only at ho e1 e2 e15 e16 e17 hn1
  subst hn1
  refine Rkf (jn2 @e16 @e17) ?_
  refine AWP.seq ?_
  by_cases hlt : (i : Int) < l.length
  · have hw1 : IntKind.i64.wrap ((i : Int) + 1) = ((i + 1 : Nat) : Int) := by rw [wrap_i64 (by omega) (by omega)]; rfl
    have hi2 : i < l.length := by omega
    have hi3 : i < m.length := by omega
    have hltm : (i : Int) < m.length := by omega
    have hge : (l.map encK).getD i [] = encK l[i] := getD_map encK l i hi2
    have hgm : (m.map encK).getD i [] = encK m[i] := getD_map encK m i hi3
    obtain ⟨x, hf⟩ : ∃ f, l[i] = f := ⟨_, rfl⟩
    obtain ⟨y, hgy⟩ : ∃ g, m[i] = g := ⟨_, rfl⟩
    have hstep : allQ s (l.drop i) (m.drop i) = (s x y && allQ s (l.drop (i + 1)) (m.drop (i + 1))) := by
      rw [List.drop_eq_getElem_cons hi2, List.drop_eq_getElem_cons hi3, hf, hgy]; rfl
    have hxm : x ∈ l := by rw [← hf]; exact List.getElem_mem hi2
    have hym : y ∈ m := by rw [← hgy]; exact List.getElem_mem hi3
    rw [hf] at hge
    rw [hgy] at hgm
    refine Btf @hlt ?_
    refine AWP.skip ?_
    refine Ev ?_
    refine AWP.seq ?_
    refine AWP.block ?_
    refine AWP.seqReg (by kernel_rfl) (fun E K hE hK => ?_); simp -implicitDefEqProofs only [go_sem, ↓reduceIte, Nat.reduceEqDiff, Nat.reduceAdd, Nat.reduceLT, Nat.reduceLeDiff, reduceCtorEq, Int.toNat_natCast, e15, e17, hlm, hlt, hge, encK]
    refine ⟨by omega, ?_⟩
    refine hK _ _ _ ?_; clear hE hK K E
    refine AWP.seqReg (by kernel_rfl) (fun E K hE hK => ?_); simp -implicitDefEqProofs only [go_sem, ↓reduceIte, Nat.reduceEqDiff, Nat.reduceAdd, Nat.reduceLT, Nat.reduceLeDiff, reduceCtorEq, Int.toNat_natCast, e1, hmm, hltm, hgm, encK]
    refine ⟨by omega, ?_⟩
    refine hK _ _ _ ?_; clear hE hK K E
    cases hs : s x y
    · refine Rgf @e2 (fun E K hE hK => ?_)
      refine CallR.use (hc x hxm y hym _ _) hg ?_
      rintro _ _ ⟨rfl, rfl⟩
      refine Evf @hs ?_
      refine hK _ _ _ ?_; clear hE hK K E
      refine Bt ?_
      refine Rk ?_
      refine AWP.ret ?_
      refine Ev ?_
      exact fin _ _ _ false (by exact Er) (Ouf @ho) (by rw [hx, hstep, hs]; rfl)
    · refine Rgf @e2 (fun E K hE hK => ?_)
      refine CallR.use (hc x hxm y hym _ _) hg ?_
      rintro _ _ ⟨rfl, rfl⟩
      refine Evf @hs ?_
      refine hK _ _ _ ?_; clear hE hK K E
      refine Bf ?_
      refine AWP.skip ?_
      refine Ev ?_
      refine Raf (jn2 @e17 @hw1) (fun E K hE hK => ?_); refine hK _ _ _ ?_; clear hE hK K E
      exact ⟨l.length - (i + 1), by omega, i + 1, by omega, rfl, cutH_outer (Nat.le_refl _) (Ouf @ho) hlow, by exact Ecf @e1, by exact Ecf @e2, by exact Ecf @e15, by exact Ecf @e16, by exact Er, by rw [hx, hstep, hs, Bool.true_and]⟩
  · refine Bff @hlt ?_
    refine AWP.exit ?_
    refine Ev ?_
    refine Rk ?_
    refine AWP.ret ?_
    refine fin _ _ _ true (by exact Er) ho ?_
    have h1 : i = l.length := by omega
    have h2 : i = m.length := by omega
    rw [hx, h1, List.drop_length, show l.length = m.length by omega, List.drop_length]; rfl
end Go.Proofs.YtihgnpboabpchaaGreatDoor
namespace Go.Proofs.YtihgnpboabpchaaGreatDoor
set_option linter.unusedSimpArgs false
set_option linter.unusedVariables false
set_option linter.unnecessarySimpa false
open Go Am
set_option maxRecDepth 100000
def eqI_gs (g : FuncId) (s : Gs → Gs → Bool) (l m : List Gs) (h : Heap) (b i : Nat) (st : St) : Prop :=
  (∀ id, id < b → st.h id = h id) ∧ st.t 1 = .one (.p (.sl 8 (m.map encG))) ∧ st.t 2 = .one (.clo (.func g) [] []) ∧ st.t 15 = .one (.p (.sl 8 (l.map encG))) ∧ st.t 16 = IntV l.length ∧ st.t 17 = IntV (i : Nat) ∧ allQ s l m = allQ s (l.drop i) (m.drop i)
end Go.Proofs.YtihgnpboabpchaaGreatDoor
namespace Go.Proofs.YtihgnpboabpchaaGreatDoor
set_option linter.unusedSimpArgs false
set_option linter.unusedVariables false
set_option linter.unnecessarySimpa false
open Go Am
set_option maxRecDepth 100000
def eqI_dn (g : FuncId) (s : Dn → Dn → Bool) (l m : List Dn) (h : Heap) (b i : Nat) (st : St) : Prop :=
  (∀ id, id < b → st.h id = h id) ∧ st.t 1 = .one (.p (.sl 2 (m.map encD))) ∧ st.t 2 = .one (.clo (.func g) [] []) ∧ st.t 15 = .one (.p (.sl 2 (l.map encD))) ∧ st.t 16 = IntV l.length ∧ st.t 17 = IntV (i : Nat) ∧ allQ s l m = allQ s (l.drop i) (m.drop i)
end Go.Proofs.YtihgnpboabpchaaGreatDoor
namespace Go.Proofs.YtihgnpboabpchaaGreatDoor
set_option linter.unusedSimpArgs false
set_option linter.unusedVariables false
set_option linter.unnecessarySimpa false
open Go Am
abbrev encF (f : Fl) : List PD := [.v (.string (mkS f.name)), .v (.float .f64 f.rank), .v (.int .u32 f.sum), .v (.int .i64 f.blk), .v (.int .i64 f.frm), .v (.int .i64 f.len)]
abbrev FlV (f : Fl) : AV := .agg ((encF f).map .p)
abbrev FlsV (l : List Fl) : AV := .one (.p (.sl 6 (l.map encF)))
end Go.Proofs.YtihgnpboabpchaaGreatDoor
namespace Go.Proofs.YtihgnpboabpchaaGreatDoor
set_option linter.unusedSimpArgs false
set_option linter.unusedVariables false
set_option linter.unnecessarySimpa false
open Go Am
def movR (l : List Fl) (p q : S) : List Fl × Int := if checkT l ≠ 0 ∨ chkN p ≠ 0 ∨ chkN q ≠ 0 then ([], 1) else if hasL p l ≠ true then ([], 4) else if hasL q l = true ∧ p ≠ q then ([], 5) else putR (delL p l) { (l.getD (kL p l) ⟨[], 0, 0, 0, 0, 0⟩) with name := q }
end Go.Proofs.YtihgnpboabpchaaGreatDoor
namespace Go.Proofs.YtihgnpboabpchaaGreatDoor
set_option linter.unusedSimpArgs false
set_option linter.unusedVariables false
set_option linter.unnecessarySimpa false
open Go Am
set_option maxRecDepth 100000
def i64F (f : Fl) : Prop := (-9223372036854775808 ≤ f.blk ∧ f.blk ≤ 9223372036854775807) ∧ (-9223372036854775808 ≤ f.frm ∧ f.frm ≤ 9223372036854775807) ∧ (-9223372036854775808 ≤ f.len ∧ f.len ≤ 9223372036854775807)
def prevN (l : List Fl) (i : Nat) : Option S := if i = 0 then none else (l[i - 1]?).map Fl.name
def tCkI (l : List Fl) (h : Heap) (b i : Nat) (st : St) : Prop :=
  (∀ id, id < b → st.h id = h id) ∧ st.t 0 = FlsV l ∧ st.t 8 = FlsV l ∧ st.t 9 = IntV l.length ∧ st.t 10 = IntV (i : Nat) ∧ tabF none l = tabF (prevN l i) (l.drop i) ∧ ∀ f ∈ l.take i, mayF f = true
end Go.Proofs.YtihgnpboabpchaaGreatDoor
namespace Go.Proofs.YtihgnpboabpchaaGreatDoor
set_option linter.unusedSimpArgs false
set_option linter.unusedVariables false
set_option linter.unnecessarySimpa false
open Go Am
set_option maxRecDepth 100000
def bsI (l : List Fl) (p : S) (h : Heap) (i j : Nat) (st : St) : Prop :=
  st.h = h ∧ st.t 0 = FlsV l ∧ st.t 1 = StrV p ∧ st.t 2 = .one (.clo (.func 137) [] []) ∧ st.t 8 = IntV l.length ∧ st.t 9 = IntV (i : Nat) ∧ st.t 10 = IntV (j : Nat)
def findR (l : List Fl) (p : S) : Nat × Bool × Int := if checkT l ≠ 0 ∨ chkN p ≠ 0 then (0, false, 1) else (kL p l, hasL p l, 0)
end Go.Proofs.YtihgnpboabpchaaGreatDoor
namespace Go.Proofs.YtihgnpboabpchaaGreatDoor
set_option linter.unusedSimpArgs false
set_option linter.unusedVariables false
set_option linter.unnecessarySimpa false
open Go Am
set_option maxRecDepth 100000
end Go.Proofs.YtihgnpboabpchaaGreatDoor
namespace Go.Proofs.YtihgnpboabpchaaGreatDoor
set_option linter.unusedSimpArgs false
set_option linter.unusedVariables false
set_option linter.unnecessarySimpa false
open Go Am
set_option maxRecDepth 100000
end Go.Proofs.YtihgnpboabpchaaGreatDoor
namespace Go.Proofs.YtihgnpboabpchaaGreatDoor
set_option linter.unusedSimpArgs false
set_option linter.unusedVariables false
set_option linter.unnecessarySimpa false
open Go Am
set_option maxRecDepth 100000
end Go.Proofs.YtihgnpboabpchaaGreatDoor
namespace Go.Proofs.YtihgnpboabpchaaGreatDoor
set_option linter.unusedSimpArgs false
set_option linter.unusedVariables false
set_option linter.unnecessarySimpa false
open Go Am
set_option maxRecDepth 100000
end Go.Proofs.YtihgnpboabpchaaGreatDoor
namespace Go.Proofs.YtihgnpboabpchaaGreatDoor
set_option linter.unusedSimpArgs false
set_option linter.unusedVariables false
set_option linter.unnecessarySimpa false
open Go Am
set_option maxRecDepth 100000
def zeroF : Fl := ⟨[], 0, 0, 0, 0, 0⟩
def getR (l : List Fl) (p : S) : Fl × Int := if checkT l ≠ 0 ∨ chkN p ≠ 0 then (zeroF, 1) else if hasL p l = true then (l.getD (kL p l) zeroF, 0) else (zeroF, 4)
def fewT (l : List Fl) : Bool := l.all (fun f => decide (f.name.length ≤ 200)) && (decide (l.length ≤ 30) || (decide (256 ≤ l.length) && decide (l.length ≤ 258)))
def fewTI (l : List Fl) (h : Heap) (b i : Nat) (st : St) : Prop :=
  (∀ id, id < b → st.h id = h id) ∧ st.t 0 = FlsV l ∧ st.t 5 = FlsV l ∧ st.t 6 = IntV l.length ∧ st.t 7 = IntV (i : Nat) ∧ ∀ f ∈ l.take i, f.name.length ≤ 200
def ownT (P : List Fl × Int) (h : Heap) (b : Nat) (r : AV) (h' : Heap) : Prop :=
  ∃ ver cap T, P.1.length ≤ cap ∧ cap * 6 = P.1.length * 6 + T.length ∧ lowCs 0 T = true ∧ r = .tup [.one (.win b ver 0 P.1.length cap), IntV P.2] ∧ h' = upd h b (rowB ver (P.1.map encF) T)
end Go.Proofs.YtihgnpboabpchaaGreatDoor
namespace Go.Proofs.YtihgnpboabpchaaGreatDoor
set_option linter.unusedSimpArgs false
set_option linter.unusedVariables false
set_option linter.unnecessarySimpa false
open Go Am
set_option maxRecDepth 100000
abbrev F64V (b : Nat) : AV := .one (.p (.v (.float .f64 b)))
theorem bits_run (args : Array Value) (w : World) : (callFunc 152 args).run Tryz.prog w = ((Extern.MathFloatBits.float64bits args).run Tryz.prog w).andThen fun v w' => .ok (.value v) w' :=
  run_callFunc_extern (fn := Tryz.f152) Tryz.func152 (by kernel_rfl) (by kernel_rfl) (by kernel_rfl) (e := Extern.MathFloatBits.float64bits) (by kernel_rfl) args w
theorem bits_ext {C : Ctx} {h : Heap} {n : Nat} {K : KT} {x : Nat} (k : K (.one (.p (.v (.int .u64 (x : Nat))))) h n) : ExtK Tryz.prog C 152 [F64V x] h n K := by
  intro a w ι Vs I hVs
  obtain ⟨hlen, hVs⟩ := hVs
  match Vs, hlen with
  | [X], _ =>
    have hX := rav_v_inv (hVs 0 _ X rfl rfl)
    subst hX
    refine ⟨.int .u64 x, w, _, h, n, ι, ?_, k, I, rav_v _, .refl _ _ _ _⟩
    rw [bits_run]
    rfl
theorem isNaN64_ok (x : Nat) (h : Heap) (b : Nat) : ACalls Tryz.prog 80 [F64V x] h b 0 (fun r h' => r = BoolV (FloatKind.f64.format.order x x != some .eq) ∧ h' = h) := by
  refine ACalls.enter Tryz.func80 rfl (by simp [Tryz.ntmps80]) (fun ι w hn H => ?_)
  refine Rk ?_
  refine Rk ?_
  refine AWP.ret ?_
  exact Ends.pure hn H (fun _ _ => rfl) (r0 := BoolV (FloatKind.f64.format.order x x != some .eq)) (by rw [show Tryz.f80.results.toList = [.tmp 2] from rfl]; exact Er) (.v _) ⟨rfl, rfl⟩
theorem signbit_ok (x : Nat) (h : Heap) (b : Nat) : ACalls Tryz.prog 153 [F64V x] h b 0 (fun r h' => r = BoolV (decide (IntKind.i64.wrap (x : Int) < 0)) ∧ h' = h) := by
  refine ACalls.enter Tryz.func153 rfl (by simp [Tryz.ntmps153]) (fun ι w hn H => ?_)
  refine Rk ?_
  refine Rg (fun E K hE hK => ?_)
  refine CallR.ext (bits_ext ?_)
  refine Ev ?_
  refine hK _ _ _ ?_; clear hE hK K E
  refine AWP.ret ?_
  exact Ends.pure hn H (fun _ _ => rfl) (r0 := BoolV (decide (IntKind.i64.wrap (x : Int) < 0))) (by rw [show Tryz.f153.results.toList = [.tmp 2] from rfl]; exact Er) (.v _) ⟨rfl, rfl⟩
end Go.Proofs.YtihgnpboabpchaaGreatDoor
namespace Go.Proofs.YtihgnpboabpchaaGreatDoor
set_option linter.unusedSimpArgs false
set_option linter.unusedVariables false
set_option linter.unnecessarySimpa false
open Go Am
set_option maxRecDepth 100000
end Go.Proofs.YtihgnpboabpchaaGreatDoor
namespace Go.Proofs.YtihgnpboabpchaaGreatDoor
set_option linter.unusedSimpArgs false
set_option linter.unusedVariables false
set_option linter.unnecessarySimpa false
open Go Am
set_option maxRecDepth 100000
def keyR (x : Nat) : Int :=
  if (FloatKind.f64.format.order x x != some .eq) = true then 18446744073709551615
  else if IntKind.i64.wrap (x : Int) < 0 then IntKind.u64.wrap ((BitVec.ofInt IntKind.u64.bits (if IntKind.u64.signed then -1 else IntKind.u64.max) ^^^ BitVec.ofInt IntKind.u64.bits (x : Int)).toNat)
  else IntKind.u64.wrap ((BitVec.ofInt IntKind.u64.bits (x : Int) ||| BitVec.ofInt IntKind.u64.bits 9223372036854775808).toNat)
def keyD (x : Nat) : Int :=
  if (FloatKind.f64.format.order x x != some .eq) = true then 18446744073709551615
  else if (x : Int) < 9223372036854775808 then IntKind.u64.wrap ((x : Int) + 9223372036854775808)
  else IntKind.u64.wrap (18446744073709551615 - (x : Int))
theorem rKeyR_ok (x : Nat) (h : Heap) (b : Nat) : ACalls Tryz.prog 105 [F64V x] h b 0 (fun r h' => r = .one (.p (.v (.int .u64 (keyR x)))) ∧ h' = h) := by
  cases c1 : FloatKind.f64.format.order x x != some .eq
  · by_cases c2 : IntKind.i64.wrap (x : Int) < 0
    · rw [show keyR x = IntKind.u64.wrap ((BitVec.ofInt IntKind.u64.bits (if IntKind.u64.signed then -1 else IntKind.u64.max) ^^^ BitVec.ofInt IntKind.u64.bits (x : Int)).toNat) by unfold keyR; rw [if_neg (by rw [c1]; decide), if_pos c2]]
      refine ACalls.enter Tryz.func105 rfl (by simp [Tryz.ntmps105]) (fun ι w hn H => ?_)
      refine Rk ?_
      refine Rg (fun E K hE hK => ?_)
      refine CallR.ext (bits_ext ?_)
      refine Ev ?_
      refine hK _ _ _ ?_; clear hE hK K E
      refine AWP.seq ?_
      refine AWP.block ?_
      refine Rg (fun E K hE hK => ?_)
      refine Us (isNaN64_ok x _ _) body_80 ?_
      refine Evf @c1 ?_
      refine hK _ _ _ ?_; clear hE hK K E
      refine Bf ?_
      refine Rg (fun E K hE hK => ?_)
      refine Us (signbit_ok x _ _) body_153 ?_
      refine Evf @c2 ?_
      refine hK _ _ _ ?_; clear hE hK K E
      refine Bt ?_
      refine Rk ?_
      refine AWP.ret ?_
      refine Ev ?_
      exact Ends.pure hn H (fun _ _ => rfl) (r0 := .one (.p (.v (.int .u64 (IntKind.u64.wrap ((BitVec.ofInt IntKind.u64.bits (if IntKind.u64.signed then -1 else IntKind.u64.max) ^^^ BitVec.ofInt IntKind.u64.bits (x : Int)).toNat)))))) (by rw [show Tryz.f105.results.toList = [.tmp 2] from rfl]; exact Er) (.v _) ⟨rfl, rfl⟩
    · rw [show keyR x = IntKind.u64.wrap ((BitVec.ofInt IntKind.u64.bits (x : Int) ||| BitVec.ofInt IntKind.u64.bits 9223372036854775808).toNat) by unfold keyR; rw [if_neg (by rw [c1]; decide), if_neg c2]]
      refine ACalls.enter Tryz.func105 rfl (by simp [Tryz.ntmps105]) (fun ι w hn H => ?_)
      refine Rk ?_
      refine Rg (fun E K hE hK => ?_)
      refine CallR.ext (bits_ext ?_)
      refine Ev ?_
      refine hK _ _ _ ?_; clear hE hK K E
      refine AWP.seq ?_
      refine AWP.block ?_
      refine Rg (fun E K hE hK => ?_)
      refine Us (isNaN64_ok x _ _) body_80 ?_
      refine Evf @c1 ?_
      refine hK _ _ _ ?_; clear hE hK K E
      refine Bf ?_
      refine Rg (fun E K hE hK => ?_)
      refine Us (signbit_ok x _ _) body_153 ?_
      refine Evf @c2 ?_
      refine hK _ _ _ ?_; clear hE hK K E
      refine Bf ?_
      refine AWP.skip ?_
      refine Ev ?_
      refine Rk ?_
      refine AWP.ret ?_
      exact Ends.pure hn H (fun _ _ => rfl) (r0 := .one (.p (.v (.int .u64 (IntKind.u64.wrap ((BitVec.ofInt IntKind.u64.bits (x : Int) ||| BitVec.ofInt IntKind.u64.bits 9223372036854775808).toNat)))))) (by rw [show Tryz.f105.results.toList = [.tmp 2] from rfl]; exact Er) (.v _) ⟨rfl, rfl⟩
  · rw [show keyR x = 18446744073709551615 by unfold keyR; rw [if_pos c1]]
    refine ACalls.enter Tryz.func105 rfl (by simp [Tryz.ntmps105]) (fun ι w hn H => ?_)
    refine Rk ?_
    refine Rg (fun E K hE hK => ?_)
    refine CallR.ext (bits_ext ?_)
    refine Ev ?_
    refine hK _ _ _ ?_; clear hE hK K E
    refine AWP.seq ?_
    refine AWP.block ?_
    refine Rg (fun E K hE hK => ?_)
    refine Us (isNaN64_ok x _ _) body_80 ?_
    refine Evf @c1 ?_
    refine hK _ _ _ ?_; clear hE hK K E
    refine Bt ?_
    refine Rk ?_
    refine AWP.ret ?_
    refine Ev ?_
    exact Ends.pure hn H (fun _ _ => rfl) (r0 := .one (.p (.v (.int .u64 18446744073709551615)))) (by rw [show Tryz.f105.results.toList = [.tmp 2] from rfl]; exact Er) (.v _) ⟨rfl, rfl⟩
theorem rankSame_ok (x y : Nat) (h : Heap) (b : Nat) : ACalls Tryz.prog 48 [F64V x, F64V y] h b 0 (fun r h' => r = BoolV (decide (keyR x = keyR y)) ∧ h' = h) := by
  refine ACalls.enter Tryz.func48 rfl (by simp [Tryz.ntmps48]) (fun ι w hn H => ?_)
  refine Rk ?_
  refine Rg (fun E K hE hK => ?_)
  refine Us (rKeyR_ok x _ _) body_105 ?_
  refine Us (rKeyR_ok y _ _) body_105 ?_
  refine hK _ _ _ ?_; clear hE hK K E
  refine AWP.ret ?_
  exact Ends.pure hn H (fun _ _ => rfl) (r0 := BoolV (decide (keyR x = keyR y))) (by rw [show Tryz.f48.results.toList = [.tmp 4] from rfl]; exact Er) (.v _) ⟨rfl, rfl⟩
def sameX (k : Nat → Int) (f g : Fl) : Bool := decide (f.name = g.name) && (decide (k f.rank = k g.rank) && (decide (f.sum = g.sum) && (decide (f.blk = g.blk) && (decide (f.frm = g.frm) && decide (f.len = g.len)))))
def sameL (k : Nat → Int) : List Fl → List Fl → Bool
  | [], [] => true
  | f :: l, g :: m => sameX k f g && sameL k l m
  | _, _ => false
end Go.Proofs.YtihgnpboabpchaaGreatDoor
namespace Go.Proofs.YtihgnpboabpchaaGreatDoor
set_option linter.unusedSimpArgs false
set_option linter.unusedVariables false
set_option linter.unnecessarySimpa false
open Go Am
set_option maxRecDepth 100000
def eqgI (l m : List Fl) (h : Heap) (b i : Nat) (st : St) : Prop :=
  (∀ id, id < b → st.h id = h id) ∧ st.t 1 = FlsV m ∧ st.t 2 = .one (.clo (.func 139) [] []) ∧ st.t 15 = FlsV l ∧ st.t 16 = IntV l.length ∧ st.t 17 = IntV (i : Nat) ∧ sameL keyR l m = sameL keyR (l.drop i) (m.drop i)
def rsgI (l m : List Fl) (h : Heap) (b i : Nat) (st : St) : Prop :=
  st.h = h ∧ st.t 0 = FlsV l ∧ st.t 1 = FlsV m ∧ st.t 12 = IntV l.length ∧ st.t 13 = IntV (i : Nat) ∧ sameL keyD l m = sameL keyD (l.drop i) (m.drop i)
end Go.Proofs.YtihgnpboabpchaaGreatDoor
namespace Go.Proofs.YtihgnpboabpchaaGreatDoor
set_option linter.unusedSimpArgs false
set_option linter.unusedVariables false
set_option linter.unnecessarySimpa false
open Go Am
set_option maxRecDepth 100000
end Go.Proofs.YtihgnpboabpchaaGreatDoor
namespace Go.Proofs.YtihgnpboabpchaaGreatDoor
set_option linter.unusedSimpArgs false
set_option linter.unusedVariables false
set_option linter.unnecessarySimpa false
open Go Am
set_option maxRecDepth 100000
theorem octE_mapM : ∀ s : S, octE (s.map encO) = some s
  | [] => rfl
  | x :: l => by
    show (match octV (.v (.int .u8 x.toNat)), octE (l.map encO) with | some c, some cs => some (c :: cs) | _, _ => none) = _
    rw [octE_mapM l, show octV (.v (.int .u8 x.toNat)) = some x by simp [octV]; have := x.toNat_lt; omega]
theorem bytesEqM_ok (s u : S) (h : Heap) (b : Nat) : ACalls Tryz.prog 49 [OctV s, OctV u] h b 0 (fun r h' => r = BoolV (decide (s = u)) ∧ h' = h) := by
  refine ACalls.enter Tryz.func49 rfl (by simp [Tryz.ntmps49]) (fun ι w hn H => ?_)
  have o1 := octE_mapM s
  have o2 := octE_mapM u
  have ho : octT Tryz.prog 38 9 = true := by kernel_rfl
  refine Rk ?_
  refine Rkf (jn3 @o1 @o2 @ho) ?_
  refine AWP.ret ?_
  exact Ends.pure hn H (fun _ _ => rfl) (r0 := BoolV (decide (s = u))) (by rw [show Tryz.f49.results.toList = [.tmp 4] from rfl]; exact Er) (.v _) ⟨rfl, rfl⟩
def strEqI (l m : List S) (h : Heap) (b i : Nat) (st : St) : Prop :=
  (∀ id, id < b → st.h id = h id) ∧ st.t 0 = ListV l ∧ st.t 1 = ListV m ∧ st.t 12 = IntV l.length ∧ st.t 13 = IntV (i : Nat) ∧ l.take i = m.take i
theorem strEq_ok (l m : List S) (hl : l.length ≤ 1000000) (h : Heap) (b : Nat) :
    ACalls Tryz.prog 50 [ListV l, ListV m] h b 0 (fun r h' => r = BoolV (decide (l = m)) ∧ h' = h) := by
  refine ACalls.enter Tryz.func50 rfl (by simp [Tryz.ntmps50]) (fun ι w hn H => ?_)
  have hlow := H.lowCells
  have hlm : (l.map encS).length = l.length := List.length_map _
  have hmm : (m.map encS).length = m.length := List.length_map _
  have fin : ∀ (t : Nat → AV) (hh : Heap) (n : Nat) (v : Bool), t 4 = BoolV v → (∀ id, id < b → hh id = h id) → v = decide (l = m) → Am.Ends Tryz.prog ⟨Tryz.f50.ntmps, b, ι, h, w, x0⟩ Tryz.f50 0 (fun r h' => r = BoolV (decide (l = m)) ∧ h' = h) ⟨t, hh, n⟩ := by
    intro t hh n v ht ho hv
    exact Ends.pure hn H ho (r0 := BoolV v) (by rw [show Tryz.f50.results.toList = [.tmp 4] from rfl]; exact Ecf @ht) (.v _) ⟨by rw [hv], rfl⟩
  refine Rk ?_
  refine AWP.seq ?_
  by_cases hlen : (l.length : Int) = m.length
  case neg =>
    refine Rkf (jn3 @hlm @hmm @hlen) ?_
    refine Bt ?_
    refine Rk ?_
    refine AWP.ret ?_
    refine Ev ?_
    exact fin _ _ _ false (by exact Er) (fun _ _ => rfl) (decide_eq_false (fun e => hlen (by rw [e]))).symm
  refine Rkf (jn3 @hlm @hmm @hlen) ?_
  refine Bs ?_
  refine AWP.seq ?_
  refine Rkf @hlm ?_
  refine AWP.block ?_
  refine AWP.loopM 0 (fun k st => ∃ i, i ≤ l.length ∧ k = l.length - i ∧ strEqI l m h b i st) l.length rfl ⟨0, Nat.zero_le _, rfl, Ou, by exact Er, by exact Er, by exact Er, by exact Er, rfl⟩ ?_
  rintro k ⟨t, hh, n⟩ ⟨i, hi, rfl, ho, e0, e1, e12, e13, hx⟩ hn1
  simp only at ho e0 e1 e12 e13 hn1
  subst hn1
  refine Rkf (jn2 @e12 @e13) ?_
  refine AWP.seq ?_
  by_cases hlt : (i : Int) < l.length
  · have hw1 : IntKind.i64.wrap ((i : Int) + 1) = ((i + 1 : Nat) : Int) := by rw [wrap_i64 (by omega) (by omega)]; rfl
    have hi2 : i < l.length := by omega
    have hi3 : i < m.length := by omega
    have hltm : (i : Int) < m.length := by omega
    have hge : (l.map encS).getD i [] = encS l[i] := getD_map encS l i hi2
    have hgm : (m.map encS).getD i [] = encS m[i] := getD_map encS m i hi3
    obtain ⟨x, hf⟩ : ∃ f, l[i] = f := ⟨_, rfl⟩
    obtain ⟨y, hgy⟩ : ∃ g, m[i] = g := ⟨_, rfl⟩
    rw [hf] at hge
    rw [hgy] at hgm
    refine Btf @hlt ?_
    refine AWP.skip ?_
    refine Ev ?_
    refine AWP.seq ?_
    refine AWP.block ?_
    refine Rgf @e13 (fun E K hE hK => ?_)
    refine hK _ _ _ ?_; clear hE hK K E
    have ht1 : l.take (i + 1) = l.take i ++ [x] := by rw [List.take_add_one, List.getElem?_eq_getElem hi2, hf]; rfl
    have ht2 : m.take (i + 1) = m.take i ++ [y] := by rw [List.take_add_one, List.getElem?_eq_getElem hi3, hgy]; rfl
    by_cases hs : x = y
    · have hs' : (x = y) = True := eq_true hs
      refine AWP.seqRegD [] [] [] mixed (by kernel_rfl) (by kernel_rfl) (fun K hK => .inl ?_) (by kernel_rfl); simp -implicitDefEqProofs only [go_sem, ↓reduceIte, Nat.reduceEqDiff, Nat.reduceAdd, Nat.reduceLT, Nat.reduceLeDiff, reduceCtorEq, Int.toNat_natCast, e0, e1, hlm, hmm, hlt, hltm, hge, hgm, encS, mkS_list, hs', decide_true]
      refine ⟨by omega, by omega, ?_⟩
      refine hK _ _ _ ?_; clear hK K
      refine Bf ?_
      refine AWP.skip ?_
      refine Ev ?_
      refine Raf (jn2 @e13 @hw1) (fun E K hE hK => ?_); refine hK _ _ _ ?_; clear hE hK K E
      exact ⟨l.length - (i + 1), by omega, i + 1, by omega, rfl, cutH_outer (Nat.le_refl _) (Ouf @ho) hlow, by exact Ecf @e0, by exact Ecf @e1, by exact Ecf @e12, by exact Er, by rw [ht1, ht2, hx, hs]⟩
    · have hs' : (x = y) = False := eq_false hs
      refine AWP.seqRegD [] [] [] mixed (by kernel_rfl) (by kernel_rfl) (fun K hK => .inl ?_) (by kernel_rfl); simp -implicitDefEqProofs only [go_sem, ↓reduceIte, Nat.reduceEqDiff, Nat.reduceAdd, Nat.reduceLT, Nat.reduceLeDiff, reduceCtorEq, Int.toNat_natCast, e0, e1, hlm, hmm, hlt, hltm, hge, hgm, encS, mkS_list, hs', decide_false]
      refine ⟨by omega, by omega, ?_⟩
      refine hK _ _ _ ?_; clear hK K
      refine Bt ?_
      refine Rk ?_
      refine AWP.ret ?_
      refine Ev ?_
      exact fin _ _ _ false (by exact Er) (Ouf @ho) (decide_eq_false (fun e => hs (by
        have : l[i]? = m[i]? := by rw [e]
        rw [List.getElem?_eq_getElem hi2, List.getElem?_eq_getElem hi3, hf, hgy] at this
        injection this))).symm
  · refine Bff @hlt ?_
    refine AWP.exit ?_
    refine Ev ?_
    refine Rk ?_
    refine AWP.ret ?_
    refine fin _ _ _ true (by exact Er) ho ?_
    have h1 : i = l.length := by omega
    have h2 : i = m.length := by omega
    rw [h1, List.take_length, show l.length = m.length by omega, List.take_length] at hx
    exact (decide_eq_true hx).symm
def sameK (a c : Kn) : Bool := decide (a.name = c.name) && (decide (keyR a.rank = keyR c.rank) && decide (a.data = c.data))
theorem sameK_refl (a : Kn) : sameK a a = true := by simp [sameK]
theorem mone_ok (a c : Kn) (h : Heap) (b : Nat) : ACalls Tryz.prog 107 [KnV a, KnV c] h b 0 (fun r h' => r = BoolV (sameK a c) ∧ h' = h) := by
  refine ACalls.enter Tryz.func107 rfl (by simp [Tryz.ntmps107]) (fun ι w hn H => ?_)
  have fin : ∀ (t : Nat → AV) (hh : Heap) (n : Nat) (v : Bool), t 4 = BoolV v → (∀ id, id < b → hh id = h id) → v = sameK a c → Am.Ends Tryz.prog ⟨Tryz.f107.ntmps, b, ι, h, w, x0⟩ Tryz.f107 0 (fun r h' => r = BoolV (sameK a c) ∧ h' = h) ⟨t, hh, n⟩ := by
    intro t hh n v ht ho hv
    exact Ends.pure hn H ho (r0 := BoolV v) (by rw [show Tryz.f107.results.toList = [.tmp 4] from rfl]; exact Ecf @ht) (.v _) ⟨by rw [hv], rfl⟩
  refine Rk ?_
  by_cases c0 : a.name = c.name
  case neg =>
    have d0 : (a.name = c.name) = False := eq_false c0
    refine Rkf (jn2 @mkS_list @d0) ?_
    refine AWP.ret ?_
    exact fin _ _ _ false (by exact Er) Ou (by simp [sameK, c0])
  have d0 : (a.name = c.name) = True := eq_true c0
  cases c1 : decide (keyR a.rank = keyR c.rank)
  · refine Rgf (jn2 @mkS_list @d0) (fun E K hE hK => ?_)
    refine Us (rankSame_ok a.rank c.rank _ _) body_48 ?_
    refine Evf @c1 ?_
    refine hK _ _ _ ?_; clear hE hK K E
    refine AWP.ret ?_
    exact fin _ _ _ false (by exact Er) Ou (by simp [sameK, c1])
  · refine Rgf (jn2 @mkS_list @d0) (fun E K hE hK => ?_)
    refine Us (rankSame_ok a.rank c.rank _ _) body_48 ?_
    refine Evf @c1 ?_
    refine Us (bytesEqM_ok a.data c.data _ _) body_49 ?_
    refine hK _ _ _ ?_; clear hE hK K E
    refine AWP.ret ?_
    exact fin _ _ _ (decide (a.data = c.data)) (by exact Er) Ou (by simp [sameK, c0, c1])
def sameW (a c : Vw) : Bool := decide (a.gen = c.gen) && allQ sameK a.l c.l
theorem sameW_refl (a : Vw) : sameW a a = true := by simp [sameW, allQ_refl (fun x _ => sameK_refl x)]
theorem mview_ok (a c : Vw) (ha : a.l.length ≤ 1000000) (h : Heap) (b : Nat) : ACalls Tryz.prog 51 [VwV a, VwV c] h b 0 (fun r h' => r = BoolV (sameW a c) ∧ h' = h) := by
  refine ACalls.enter Tryz.func51 rfl (by simp [Tryz.ntmps51]) (fun ι w hn H => ?_)
  have fin : ∀ (t : Nat → AV) (hh : Heap) (n : Nat) (v : Bool), t 4 = BoolV v → (∀ id, id < b → hh id = h id) → v = sameW a c → Am.Ends Tryz.prog ⟨Tryz.f51.ntmps, b, ι, h, w, x0⟩ Tryz.f51 0 (fun r h' => r = BoolV (sameW a c) ∧ h' = h) ⟨t, hh, n⟩ := by
    intro t hh n v ht ho hv
    exact Ends.pure hn H ho (r0 := BoolV v) (by rw [show Tryz.f51.results.toList = [.tmp 4] from rfl]; exact Ecf @ht) (.v _) ⟨by rw [hv], rfl⟩
  refine Rk ?_
  by_cases c0 : a.gen = c.gen
  case neg =>
    have d0 : (a.gen = c.gen) = False := eq_false c0
    refine Rkf @d0 ?_
    refine AWP.ret ?_
    exact fin _ _ _ false (by exact Er) Ou (by simp [sameW, c0])
  have d0 : (a.gen = c.gen) = True := eq_true c0
  refine Rgf @d0 (fun E K hE hK => ?_)
  refine Us (eqf_kn_ok 107 sameK a.l c.l ha _ _ body_107 (fun x _ y _ h b => mone_ok x y h b)) body_106 ?_
  refine hK _ _ _ ?_; clear hE hK K E
  refine AWP.ret ?_
  exact fin _ _ _ (allQ sameK a.l c.l) (by exact Er) Ou (by simp [sameW, c0])
end Go.Proofs.YtihgnpboabpchaaGreatDoor
namespace Go.Proofs.YtihgnpboabpchaaGreatDoor
set_option linter.unusedSimpArgs false
set_option linter.unusedVariables false
set_option linter.unnecessarySimpa false
open Go Am
namespace Am
def lessC (c d : Cell) : Prop := c = d ∨ ∃ sz, c = .p (.v (.slice none 0 0)) ∧ d = .p (.sl sz [])
def lessL : List Cell → List Cell → Prop
  | [], [] => True
  | c :: cs, d :: ds => lessC c d ∧ lessL cs ds
  | _, _ => False
def lessV : AV → AV → Prop
  | .agg cs, .agg ds => lessL cs ds
  | .one c, .one d => lessC c d
  | x, y => x = y
def lessVs : List AV → List AV → Prop
  | [], [] => True
  | c :: cs, d :: ds => lessV c d ∧ lessVs cs ds
  | _, _ => False
theorem lessC.refl (c : Cell) : lessC c c := .inl rfl
theorem lessC.nil (sz : Nat) : lessC (.p (.v (.slice none 0 0))) (.p (.sl sz [])) := .inr ⟨sz, rfl, rfl⟩
theorem lessL.refl : ∀ l, lessL l l
  | [] => trivial
  | c :: l => ⟨.refl c, lessL.refl l⟩
theorem lessL.len : ∀ {l m}, lessL l m → l.length = m.length
  | [], [], _ => rfl
  | _ :: _, _ :: _, h => by rw [List.length_cons, List.length_cons, h.2.len]
  | [], _ :: _, h => h.elim
  | _ :: _, [], h => h.elim
theorem lessL.at : ∀ {l m}, lessL l m → ∀ {i : Nat} {c d : Cell}, l[i]? = some c → m[i]? = some d → lessC c d
  | [], _, _, _, _, _, hc, _ => by simp at hc
  | _ :: _, [], h, _, _, _, _, _ => h.elim
  | c :: l, d :: m, h, 0, _, _, hc, hd => by simp at hc hd; subst hc; subst hd; exact h.1
  | c :: l, d :: m, h, i + 1, _, _, hc, hd => h.2.at (i := i) (by simpa using hc) (by simpa using hd)
theorem lessVs.len : ∀ {l m}, lessVs l m → l.length = m.length
  | [], [], _ => rfl
  | _ :: _, _ :: _, h => by rw [List.length_cons, List.length_cons, h.2.len]
  | [], _ :: _, h => h.elim
  | _ :: _, [], h => h.elim
theorem lessVs.at : ∀ {l m}, lessVs l m → ∀ {i : Nat} {c d : AV}, l[i]? = some c → m[i]? = some d → lessV c d
  | [], _, _, _, _, _, hc, _ => by simp at hc
  | _ :: _, [], h, _, _, _, _, _ => h.elim
  | c :: l, d :: m, h, 0, _, _, hc, hd => by simp at hc hd; subst hc; subst hd; exact h.1
  | c :: l, d :: m, h, i + 1, _, _, hc, hd => h.2.at (i := i) (by simpa using hc) (by simpa using hd)
theorem lessV.refl (x : AV) : lessV x x := by
  cases x with
  | one c => exact lessC.refl c
  | agg l => exact lessL.refl l
  | tup l => rfl
theorem lessL.app : ∀ {a b c d : List Cell}, lessL a b → lessL c d → lessL (a ++ c) (b ++ d)
  | [], [], _, _, _, h => h
  | _ :: _, _ :: _, _, _, h1, h2 => ⟨h1.1, h1.2.app h2⟩
  | [], _ :: _, _, _, h, _ => h.elim
  | _ :: _, [], _, _, h, _ => h.elim
theorem lessC.ok {ι : Nat → Nat} {h : Heap} {bd : Nat} {w : World} {c d : Cell} {v : Value} (l : lessC c d) (r : RCell ι h bd w c v) : RCell ι h bd w d v := by
  rcases l with rfl | ⟨sz, rfl, rfl⟩
  · exact r
  · cases r with
    | p hd => cases hd with
      | v => exact .p (RPD.sl (es := []) none 0 (fun _ _ => undef) (Nat.le_refl _) (fun _ => rfl) (fun _ e => by cases e) (fun _ e => by cases e) (fun _ _ e => by simp at e) (fun _ _ e => by simp at e))
theorem lessV.ok {ι : Nat → Nat} {h : Heap} {bd : Nat} {w : World} {x y : AV} {v : Value} (l : lessV x y) (r : RAV ι h bd w x v) : RAV ι h bd w y v := by
  cases r with
  | one hc =>
    cases y with
    | one d => exact .one (lessC.ok l hc)
    | _ => cases l
  | agg V hl hv =>
    cases y with
    | agg ds =>
      refine .agg V (hl.trans (lessL.len l)) (fun i d u hd hu => ?_)
      have hi : i < V.length := (List.getElem?_eq_some_iff.1 hu).1
      rename_i cs
      have hc := List.getElem?_eq_getElem (l := cs) (i := i) (by omega)
      exact (lessL.at l hc hd).ok (hv i _ u hc hu)
    | _ => cases l
  | tup V hl hv =>
    cases y with
    | tup ds => cases l; exact .tup V hl hv
    | _ => cases l
theorem ACalls.argNil {P : Program} {f : FuncId} {args args' : List AV} {h : Heap} {b m : Nat} {R : AV → Heap → Prop} (c : ACalls P f args' h b m R) (l : lessVs args args') : ACalls P f args h b m R := by
  intro ι w vs hb hh ha
  refine c ι w vs hb hh ⟨ha.1.trans l.len, fun i d u hd hu => ?_⟩
  have hi : i < vs.length := (List.getElem?_eq_some_iff.1 hu).1
  have hc := List.getElem?_eq_getElem (l := args) (i := i) (by have := ha.1; omega)
  exact (l.at hc hd).ok (ha.2 i _ u hc hu)
theorem AWP.nilsAt {P : Program} {C : Ctx} {Q : Exit → St → Prop} {c : Code} {t : Nat → AV} {h : Heap} {n : Nat} (G : Nat) {gb : Blk} {cs : List Cell} (hG : h G = some gb) (l : lessL gb.cells cs)
    (K : AWP P C c Q ⟨t, upd h G ⟨gb.ver, cs⟩, n⟩) : AWP P C c Q ⟨t, h, n⟩ := by
  refine .weak (fun a w ι I => ⟨ι, ?_⟩) K
  have hll := l.len
  generalize hh2 : upd h G ⟨gb.ver, cs⟩ = h2
  have hat : ∀ i b', h2 i = some b' → ∃ b, h i = some b ∧ b.ver = b'.ver ∧ b.cells.length = b'.cells.length ∧ lessL b.cells b'.cells := by
    intro i b' e
    subst hh2
    by_cases hi : i = G
    · subst hi; rw [upd_same] at e; injection e with e; subst e
      exact ⟨gb, hG, rfl, hll, l⟩
    · rw [upd_ne _ _ _ _ hi] at e
      exact ⟨b', e, rfl, rfl, lessL.refl _⟩
  have hnil : ∀ {b b' : Blk}, b.cells.length = b'.cells.length → b'.cells ≠ [] → b.cells ≠ [] := fun e ne hz => ne (List.eq_nil_of_length_eq_zero (by rw [← e, hz]; rfl))
  have M : Moves ι h (C.b + n) w ι h2 (C.b + n) w := by
    refine ⟨Nat.le_refl _, fun b s _ i b' e ne => ?_, fun _ _ _ => rfl, fun i _ b' e => ?_⟩
    · obtain ⟨b0, e0, _, hlen, _⟩ := hat i b' e
      exact s i b0 e0 (hnil hlen ne)
    · obtain ⟨b0, e0, hv, _, _⟩ := hat i b' e
      exact ⟨b0, e0, Nat.le_of_eq hv, fun _ => rfl⟩
  refine ⟨fun i hi b' e => ?_, fun i hi b' e ne => ?_, fun i hi => ?_, ⟨fun i b' e ne => ?_, fun i j bi bj ei ej ni nj heq => ?_⟩, fun j => (I.tmps j).move M, I.ntmps, I.defers, I.keeps⟩
  · obtain ⟨b0, e0, hv, hlen, _⟩ := hat i b' e
    obtain ⟨bb, h3, h4, h5⟩ := I.outer i hi b0 e0
    refine ⟨bb, h3, hv ▸ h4, ?_⟩
    rcases h5 with ⟨h5, h6⟩ | ⟨h5, h6⟩
    · exact .inl ⟨h5.trans hlen, h6⟩
    · exact .inr ⟨hv ▸ h5, fun ne => h6 (hnil hlen ne)⟩
  · obtain ⟨b0, e0, _, hlen, _⟩ := hat i b' e
    exact I.fresh i hi b0 e0 (hnil hlen ne)
  · show h2 i = none
    cases e : h2 i with
    | none => rfl
    | some b' =>
      obtain ⟨b0, e0, _⟩ := hat i b' e
      have e3 : h i = none := I.bound i hi
      rw [e3] at e0; cases e0
  · obtain ⟨b0, e0, hv, hlen, h6⟩ := hat i b' e
    obtain ⟨cc, ty, g1, g2, g3⟩ := I.heap.blk i b0 e0 (hnil hlen ne)
    refine ⟨cc, ty, g1, g2.trans hlen, fun j d u hd hu => ?_⟩
    have hj : j < b'.cells.length := (List.getElem?_eq_some_iff.1 hd).1
    have hc := List.getElem?_eq_getElem (l := b0.cells) (i := j) (by omega)
    exact ((h6.at hc hd).ok (g3 j _ u hc hu)).move M
  · obtain ⟨b0, e0, _, hlen, _⟩ := hat i bi ei
    obtain ⟨b1, e1, _, hlen1, _⟩ := hat j bj ej
    exact I.heap.inj i j b0 b1 e0 e1 (hnil hlen ni) (hnil hlen1 nj) heq
end Am
end Go.Proofs.YtihgnpboabpchaaGreatDoor
namespace Go.Proofs.YtihgnpboabpchaaGreatDoor
set_option linter.unusedSimpArgs false
set_option linter.unusedVariables false
set_option linter.unnecessarySimpa false
open Go Am
set_option maxRecDepth 100000
def idxI_gs (g : FuncId) (cap : List Cell) (f : Gs → Bool) (xs : List Gs) (h : Heap) (i : Nat) (s : St) : Prop :=
  s.h = h ∧ s.t 0 = .one (.p (.sl 8 (xs.map encG))) ∧ s.t 1 = .one (.clo (.func g) [] cap) ∧ s.t 7 = IntV xs.length ∧ s.t 8 = IntV i ∧ idxFrom f 0 xs = idxFrom f i (xs.drop i)
theorem index_gs_ok (g : FuncId) (cap : List Cell) (f : Gs → Bool) (xs : List Gs) (h : Heap) (b : Nat) (hg : bodyB Tryz.prog g = true) (hcap : lowCs b cap = true) (hl : xs.length ≤ 1000000000)
    (hc : ∀ x ∈ xs, ACalls Tryz.prog g (.agg ((encG x).map .p) :: cap.map .one) h b 0 (fun r h' => r = BoolV (f x) ∧ h' = h)) :
    ACalls Tryz.prog 104 [.one (.p (.sl 8 (xs.map encG))), .one (.clo (.func g) [] cap)] h b 0 (fun r h' => r = IntV (idxFrom f 0 xs) ∧ h' = h) := by
  refine ACalls.enter Tryz.func104 rfl (by simp [Tryz.ntmps104]) (fun ι w hn H => ?_)
  have hlow := H.lowCells
  have fin : ∀ (t : Nat → AV) (v : Int), t 4 = IntV v → v = idxFrom f 0 xs → Am.Ends Tryz.prog ⟨Tryz.f104.ntmps, b, ι, h, w, x0⟩ Tryz.f104 0 (fun r h' => r = IntV (idxFrom f 0 xs) ∧ h' = h) ⟨t, h, 0⟩ := by
    intro t v ht hv
    exact Ends.pure hn H (fun _ _ => rfl) (r0 := IntV v) (by rw [show Tryz.f104.results.toList = [.tmp 4] from rfl]; exact Ecf @ht) (.v _) ⟨by rw [hv], rfl⟩
  refine Rk ?_
  refine AWP.seq ?_
  refine Rk ?_
  refine AWP.block ?_
  refine AWP.loopUp 0 xs.length (idxI_gs g cap f xs h) 0 (Nat.zero_le _) rfl ⟨rfl, ?_, ?_, ?_, ?_, ?_⟩ ?_
  · exact Ec
  · exact Ec
  · exact Ec
  · exact Er
  · rfl
  · rintro i ⟨t, hh, n⟩ hi ⟨eh, e0, e1, e7, e8, hx⟩ hn1
    simp only at eh e0 e1 e7 e8 hn1
    subst hn1
    subst eh
    refine Rgf (jn4 @e0 @e1 @e7 @e8) (fun E K hE hK => ?_)
    refine hK _ _ _ ?_; clear hE hK K E
    by_cases hlt : (i : Int) < xs.length
    · have hi2 : i < xs.length := by omega
      have hge : (xs.map encG).getD i [] = encG xs[i] := getD_map encG xs i hi2
      have hstep : idxFrom f i (xs.drop i) = if f xs[i] = true then (i : Int) else idxFrom f (i + 1) (xs.drop (i + 1)) := by
        rw [List.drop_eq_getElem_cons hi2]; rfl
      refine AWP.seq ?_
      refine AWP.ifT (by exact Ecf @hlt) ?_
      refine AWP.skip ?_
      refine Ev ?_
      refine AWP.seq ?_
      refine AWP.block ?_
      refine Rkf (jn4 @e0 @e1 @e7 @e8) ?_
      refine AWP.seqReg (by kernel_rfl) (fun E K hE hK => ?_); simp -implicitDefEqProofs only [go_sem, ↓reduceIte, Nat.reduceEqDiff, Nat.reduceAdd, Nat.reduceLT, Nat.reduceLeDiff, reduceCtorEq, Int.toNat_natCast, e0, e1, e7, e8, hlt, hge, encG]
      refine ⟨by omega, ?_⟩
      refine CallR.use (hc xs[i] (List.getElem_mem hi2)) hg ?_
      rintro _ _ ⟨rfl, rfl⟩
      refine Ev ?_
      refine hK _ _ _ ?_; clear hE hK K E
      cases hf : f xs[i] with
      | true =>
        refine AWP.ifT (by exact Ecf @hf) ?_
        refine Rk ?_
        refine AWP.ret ?_
        refine Ev ?_
        refine fin _ i (by exact Ec) ?_
        rw [hx, hstep, if_pos hf]
      | false =>
        refine AWP.ifF (by exact Ecf @hf) ?_
        refine AWP.skip ?_
        refine Ev ?_
        refine Raf @e8 (fun E K hE hK => ?_)
        refine hK _ _ _ ?_; clear hE hK K E
        refine ⟨hi2, ?_, ?_, ?_, ?_, ?_, ?_⟩
        · exact cutH_id rfl (fun _ _ => rfl) hn hlow
        · exact Ecf @e0
        · refine Evf @e1 ?_; exact cutV_clo hcap
        · exact Ecf @e7
        · refine Ev ?_; rw [wrap_i64 (by omega) (by omega)]; rfl
        · rw [hx, hstep, if_neg (by rw [hf]; simp)]
    · refine AWP.seq ?_
      refine AWP.ifF (by exact Ecf @hlt) ?_
      refine AWP.exit ?_
      refine Ev ?_
      refine Rk ?_
      refine AWP.ret ?_
      refine Ev ?_
      refine fin _ (-1) (by exact Ec) ?_
      have : i = xs.length := by omega
      subst this
      rw [hx]; simp [idxFrom]
end Go.Proofs.YtihgnpboabpchaaGreatDoor
