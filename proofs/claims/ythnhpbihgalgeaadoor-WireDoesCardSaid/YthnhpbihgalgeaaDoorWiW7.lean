/-
  Walks of package wire: the deferred closure of read; Walks of package wire: read; Walks of package wire: read, From.
-/
import Derived.Test.YthnhpbihgalgeaaDoorWiW4
import Derived.Recover
import Derived.Tactics2
namespace Go.Proofs.YthnhpbihgalgeaaDoor
set_option linter.unusedSimpArgs false
set_option linter.unusedVariables false
set_option linter.unnecessarySimpa false
open Go Am
set_option maxRecDepth 100000

/-- the closure, its frame's call at its end -/
theorem rdc_idle (p1 p2 : Value) (w : World) :
    CallsD Tryd.prog 39 #[p1, p2] .returning w fun e u' w' => e = .returned (.tuple #[]) ∧ u' = .returning ∧ w' = w := by
  refine callsD_of_wpS Tryd.func39 rfl fun c₀ cs hu => ?_
  apply wpS_seq
  apply wpS_region
  simp [wpOpsS, go_sem, recoverD, hu, Tryd.ntmps39, Exit.thenS]
  apply wpS_seq
  apply wpS_region
  simp [wpOpsS, go_sem, Exit.thenS]
  refine wpS_cond (t := false) (by simp [Act.eval, Array.replicate]) ?_
  simp only [Bool.false_eq_true, if_false]
  refine wpS_of_wp (wp_skip ?_)
  cases c₀
  simp_all [bodyPostS, results, Tryd.results39]

theorem kS_iface {P : Program} {C : Ctx} {E : Exit → St → Prop} {dst : Option Tmp} {os : List Oper} {pre : List (Option Tmp)} {t : Nat → AV} {h : Heap} {n : Nat} {K : FinT} (u : TypeId) (v : Value) : kS P C E (.one (.p (.v (.iface u v)))) dst os pre t h n K = evOps P C E os (pre ++ [dst]) (putT t dst (.one (.p (.v (.iface u v))))) h n K := rfl
attribute [go_sem] kS_iface
/-- .. that panics -/
theorem rdc_bad {ι : Nat → Nat} {h : Heap} {b : Nat} {w : World} {p1 p2 : Value} {id1 id2 v1 v2 : Nat} {c1 c2 : Cell} (hb : ∀ id, b ≤ id → h id = none) (H : HeapOK ι h b w)
    (r1 : RAV ι h b w (.one (.ptr id1 v1 0)) p1) (r2 : RAV ι h b w (.one (.ptr id2 v2 0)) p2) (h1 : h id1 = some ⟨v1, [c1]⟩) (h2 : h id2 = some ⟨v2, [c2]⟩) (hne : id1 ≠ id2) (l1 : id1 < b) (l2 : id2 < b) :
    CallsD Tryd.prog 39 #[p1, p2] (.panicking brk) w fun e u' w' => e = .returned (.tuple #[]) ∧ (∃ en, u' = .panicking [en] ∧ en.recovered = true) ∧
      ∃ h' ι', Post ι h b w 0 ι' h' w' ∧ h' = upd (upd h id1 ⟨v1, [.p (.v (.slice none 0 0))]⟩) id2 ⟨v2, [.p (.v (.bool false))]⟩ := by
  refine callsD_of_wpS Tryd.func39 rfl fun c₀ cs hu => ?_
  apply wpS_seq
  apply wpS_region
  simp [wpOpsS, go_sem, recoverD, hu, brk, Tryd.ntmps39, Exit.thenS]
  apply wpS_seq
  apply wpS_region
  simp [wpOpsS, go_sem, Exit.thenS]
  refine wpS_cond (t := true) (by simp [Act.eval, Array.replicate]) ?_
  simp only [if_true]
  refine wpS_of_wp ?_
  have hi : isCon Tryd.prog 61 = true := by kernel_rfl
  have hl := H.lowCells
  have ha : RAVs ι h b w [.one (.ptr id1 v1 0), .one (.ptr id2 v2 0)] [p1, p2] := ⟨rfl, fun i c u hc hu => by
    match i with
    | 0 => simp at hc hu; subst hc; subst hu; exact r1
    | 1 => simp at hc hu; subst hc; subst hu; exact r2
    | i + 2 => simp at hc⟩
  have I0 := Inv.entry (N := 16) (by simp) hb H ha
  have I1 := I0.put (d := some 5) (show 5 < 16 by decide) (rav_v (.iface 61 (.agg #[])))
  have I2 := I1.put (d := some 2) (show 2 < 16 by decide) (rav_v (.iface 61 (.agg #[])))
  have I3 := I2.put (d := some 6) (show 6 < 16 by decide) (rav_v (.iface 61 (.agg #[])))
  have I4 := I3.put (d := some 7) (show 7 < 16 by decide) (rav_v (.bool true))
  generalize hact : ({ tmps := #[p1, p2] ++ ((((Array.replicate 14 undef).setIfInBounds 3 (Value.iface 61 (Value.agg #[]))).setIfInBounds 0 (Value.iface 61 (Value.agg #[]))).setIfInBounds 4 (Value.iface 61 (Value.agg #[]))).setIfInBounds 5 (Value.bool true), defers := [] } : Act) = act
  have e : act = (((({ tmps := [p1, p2].toArray ++ Array.replicate (16 - [p1, p2].toArray.size) undef, defers := [] } : Act).put (some 5) (Value.iface 61 (Value.agg #[]))).put (some 2) (Value.iface 61 (Value.agg #[]))).put (some 6) (Value.iface 61 (Value.agg #[]))).put (some 7) (.bool true) := by
    rw [← hact]; simp [Act.put]
  rw [← e] at I4
  have hH : ∀ i, b ≤ i → upd (upd h id1 ⟨v1, [.p (.v (.slice none 0 0))]⟩) id2 ⟨v2, [.p (.v (.bool false))]⟩ i = none := fun i hi => by
    rw [upd_ne _ _ _ _ (by omega), upd_ne _ _ _ _ (by omega)]; exact hb i hi
  refine wp_mono (wpIn_wide.1 ((?hw : AWP Tryd.prog ⟨16, b, ι, h, w, x0⟩ _ (fun e s => e = .normal ∧ EndsX ⟨16, b, ι, h, w, x0⟩ 0 (fun _ h' => h' = upd (upd h id1 ⟨v1, [.p (.v (.slice none 0 0))]⟩) id2 ⟨v2, [.p (.v (.bool false))]⟩) [] s) _) act w ι I4)) ?_
  case hw =>
    have n1 : ¬ b = id1 := by omega
    have n2 : ¬ b = id2 := by omega
    have n3 : ¬ id1 = b := by omega
    have n4 : ¬ id2 = b := by omega
    have n5 : ¬ id2 = id1 := fun e => hne e.symm
    refine AWP.seq ?_
    refine Rkf (jn2 @hi (jn7 @h1 @h2 @n1 @n2 @n3 @n4 @n5)) ?_
    refine Rk ?_
    refine Bs ?_
    refine Raf (jn7 @h1 @h2 @n1 @n2 @n3 @n4 @n5) (fun E K hE hK => ?_); refine hK _ _ _ ?_; clear hE hK K E
    refine ⟨rfl, EndsX.low (fun i (hi2 : i < b) blk e c hc => ?_) (lowH_eq (fun i (hi2 : i < b) => ?_) hH)⟩
    · have e' : upd (upd h id1 ⟨v1, [.p (.v (.slice none 0 0))]⟩) id2 ⟨v2, [.p (.v (.bool false))]⟩ i = some blk := by
        rw [← e]; simp [upd, show ¬ i = b by omega]
      by_cases g2 : i = id2
      · subst g2; rw [upd_same] at e'; injection e' with e'; subst e'; simp at hc; subst hc; rfl
      · rw [upd_ne _ _ _ _ g2] at e'
        by_cases g1 : i = id1
        · subst g1; rw [upd_same] at e'; injection e' with e'; subst e'; simp at hc; subst hc; rfl
        · rw [upd_ne _ _ _ _ g1] at e'; exact hl i blk e' c hc
    · simp [upd, show ¬ i = b by omega]
  rintro e a' w' (⟨s', ι', ⟨rfl, hq⟩, I'⟩ | ⟨_, he⟩)
  case inr => exact he.elim
  obtain ⟨h', ι2, rfl, hp⟩ := hq a' w' ι' I'
  exact ⟨I'.defers, _, rfl, _, results_none Tryd.results39 _ _ _, rfl, ⟨_, rfl, rfl⟩, ι2, hp⟩
end Go.Proofs.YthnhpbihgalgeaaDoor

namespace Go.Proofs.YthnhpbihgalgeaaDoor
set_option linter.unusedSimpArgs false
set_option linter.unusedVariables false
set_option linter.unnecessarySimpa false
open Go Am
set_option maxRecDepth 100000

/-- what read comes to -/
def readR (s : S) (h : Heap) (b : Nat) (r : AV) (h' : Heap) : Prop := match readT s with
  | none => r = .tup [.one (.p (.v (.slice none 0 0))), BoolV false] ∧ h' = h
  | some l => ∃ ver cap T, l.length ≤ cap ∧ cap * 6 = l.length * 6 + T.length ∧ lowCs 0 T = true ∧ r = .tup [.one (.win b ver 0 l.length cap), BoolV true] ∧ h' = upd h b (rowB ver (l.map encF) T)

abbrev rdQ (P : Program) (C : Ctx) (fn : Func) (s : S) (e : Exit) (st : St) : Prop := match e with
  | .ret => Am.Ends P C fn 1 (readR s C.h C.b) ⟨st.t, st.h, 2 + st.n⟩
  | .panic ch => ch = brk ∧ readT s = none ∧ (∃ c1 c2, st.h C.b = some ⟨0, [c1]⟩ ∧ st.h (C.b + 1) = some ⟨0, [c2]⟩) ∧ (∀ i, i < C.b → st.h i = C.h i) ∧ st.t 2 = .one (.ptr C.b 0 0) ∧ st.t 3 = .one (.ptr (C.b + 1) 0 0)
  | _ => False

theorem cutH_out2 {b m x : Nat} {h h0 : Heap} (hl : ∀ id blk, h0 id = some blk → ∀ c ∈ blk.cells, lowC b c = true) (hm : b ≤ m) (e : h x = h0 x) (hx : x < b) : cutH m h x = h0 x := by
  cases h1 : h0 x with
  | none => unfold cutH; rw [if_pos (by omega), e, h1]; rfl
  | some blk => exact cutH_same (by omega) (e.trans h1) (lowCs_of fun c hc => lowC_mono hm (hl x blk h1 c hc))
theorem sub_del2 {h h' : Heap} {x y : Nat} (e : ∀ i, i ≠ x → i ≠ y → h' i = h i) : Am.Sub (delH (delH h x) y) h' := fun i b hb => by
  obtain ⟨h1, h2⟩ := delH_some hb
  obtain ⟨h3, h4⟩ := delH_some h2
  exact ⟨b, by rw [e i h3 h1]; exact h4, rfl, .inr rfl⟩

def rdI (s : S) (s1 : S) (cnt : Nat) (h : Heap) (b B i : Nat) (st : St) : Prop :=
  ∃ l u ver cap, l.length = i ∧ (readN cnt s1 = (readN (cnt - i) u).map fun r => (l ++ r.1, r.2)) ∧ u.length ≤ s.length ∧
    FlRow st.h ((B + 1)) ver cap l ∧ st.h b = some ⟨0, [.win ((B + 1)) ver 0 l.length cap]⟩ ∧ st.h (b + 1) = some ⟨0, [.p (.v (.bool false))]⟩ ∧ st.h (B) = some (rdV 0 u) ∧ (∀ x, x < b → st.h x = h x) ∧
    st.t 2 = .one (.ptr b 0 0) ∧ st.t 3 = .one (.ptr (b + 1) 0 0) ∧ st.t 4 = .one (.ptr (B) 0 0) ∧ st.t 10 = U64V cnt ∧ st.t 11 = U64V (i : Nat)

theorem append_flg {C : Ctx} {h : Heap} {n : Nat} {K : KT} {id ver cap : Nat} {x : AV} {m : List Fl} {f : Fl} (hr : FlRow h id ver cap m) (h2 : srcA h 6 x = some (1, (encF f).map .p)) (hl : m.length ≤ 100000)
    (k : ∀ cap' T', (m.length + 1) * 6 + T'.length = cap' * 6 → lowCs 0 T' = true → K (.one (.win id (ver + 1) 0 (m.length + 1) cap')) (upd h id (rowB (ver + 1) ((m ++ [f]).map encF) T')) n) :
    BiK Tryd.prog C .append [22, 22] [.one (.win id ver 0 m.length cap), x] h n K := by
  obtain ⟨T, h1, h3, h4⟩ := hr
  have hlm : (m.map encF).length = m.length := List.length_map _
  have hfl := okEs_len (okEs_fl m)
  rw [hlm] at hfl
  refine BiK.append_own (e := 32) (sz := 6) (bytes := 56) (m := 1) (xs := (encF f).map .p) (blk := rowB ver (m.map encF) T) ty_slE_22 ty_tsz_32 ty_tzero_32 rfl ty_tby_32 ty_isIntT_22 h1 rfl
    (by rw [rowB]; simp only [List.length_append, List.length_map, hfl]; omega) h2 (by intro c hc; obtain ⟨x, hx, rfl⟩ := List.mem_map.1 hc; exact okEs_flat (okEs_fl [f]) _ (.p x) (List.mem_map.2 ⟨x, by simpa using hx, rfl⟩)) (by omega) (by decide) (by omega) (fun cap' j q1 q2 => ?_)
  have e := row_push (sz := 6) (ver := ver + 1) (len := m.length) (es := m.map encF) (fs := [encF f]) (T := T) (okEs_fl m) hlm.symm j
  have e2 : ([encF f].flatten.map Cell.p) = (encF f).map .p := rfl
  rw [e2] at e
  rw [show (rowB ver (m.map encF) T).cells = (m.map encF).flatten.map .p ++ T from rfl, e, show m.map encF ++ [encF f] = (m ++ [f]).map encF by simp]
  exact k cap' _ (by rw [List.length_replicate]; omega) (lowCs_junk _ _)

theorem read_rest (s : S) (hs : s.length ≤ 70000) (D : List Deferred) (h h1 : Heap) (b B : Nat) (hB : B = b + 2) (ι ι1 : Nat → Nat) (w w1 : World) (hn0 : ∀ id, b ≤ id → h id = none) (H0 : HeapOK ι h b w) (H : HeapOK ι1 h1 B w1) (t : Nat → AV)
    (e0 : t 0 = OctV s) (e2 : t 2 = .one (.ptr b 0 0)) (e3 : t 3 = .one (.ptr (b + 1) 0 0)) (hb0 : h1 b = some ⟨0, [.p (.v (.slice none 0 0))]⟩) (hb1 : h1 (b + 1) = some ⟨0, [.p (.v (.bool false))]⟩) (ho : ∀ i, i < b → h1 i = h i) :
    ∀ c, c = (match Tryd.f26.body with | some (.seq _ (.seq _ c)) => c | _ => .skip) →
    AWP Tryd.prog ⟨20, B, ι1, h1, w1, ⟨D, none, fun _ _ => False⟩⟩ c (rdQ Tryd.prog ⟨20, b, ι, h, w, x0⟩ Tryd.f26 s) ⟨t, h1, 0⟩ := by
  rintro _ rfl
  have hlow := H0.lowCells
  show AWP _ _ (Code.seq _ _) _ _
  refine Rkf @e0 ?_
  refine AWP.seq ?_
  cases r1 : rdB 2 s with
  | none =>
    refine Rg (fun E K hE hK => ?_)
    refine CallR.useX (number_bad s 2 (rdB_none r1) _ _ (B) 0 (upd_same _ _ _)) body_40 ?_
    rintro _ _ ⟨rfl, rfl⟩
    refine hE _ _ ?_
    refine Ev ?_
    exact ⟨rfl, by unfold readT; rw [r1]; rfl, ⟨_, _, by show upd h1 B _ b = _; rw [upd_ne _ _ _ _ (by omega)]; exact hb0, by show upd h1 B _ (b + 1) = _; rw [upd_ne _ _ _ _ (by omega)]; exact hb1⟩, fun i (hi : i < b) => by show upd h1 B _ i = _; rw [upd_ne _ _ _ _ (by omega)]; exact ho i hi, by exact Ecf @e2, by exact Ecf @e3⟩
  | some p1 =>
  obtain ⟨a, s1⟩ := p1
  have l1 := (rdB_some r1).2
  have q1 := (rdB_some r1).1
  have u1 := unB_lt a
  rw [l1] at u1
  have ls : s1.length ≤ s.length := by rw [q1, List.length_append]; omega
  have hrT : readT s = (readN (unB a) s1).map (·.1) := by unfold readT; rw [r1]; rfl
  refine Rg (fun E K hE hK => ?_)
  refine Us (number_rd r1 (by decide) _ _ (B) 0 (Nat.lt_succ_self _) (upd_same _ _ _)) body_40 ?_
  refine hK _ _ _ ?_; clear hE hK K E
  refine AWP.block ?_
  have m0 : ¬ b = B := by omega
  have m3 : ¬ b + 1 = B := by omega
  have m4 : ¬ b = B + 1 := by omega
  have m5 : ¬ b + 1 = B + 1 := by omega
  refine AWP.virtO b 0 (blk := ⟨0, [.p (.v (.slice none 0 0))]⟩) (by exact Erf (jn2 @hb0 @m0)) rfl ?_
  refine AWP.loopM 2 (fun m st => ∃ i, i ≤ unB a ∧ m = unB a - i ∧ rdI s s1 (unB a) h b B i st) (unB a) rfl ⟨0, Nat.zero_le _, rfl, [], s1, 0, 0, rfl, ?_, ls, ⟨[], by exact Er, rfl, rfl⟩, by exact Erf @m4, by simp [upd, m0, m3, m5]; exact hb1, by simp [upd, show ¬ B = b by omega], ?_, by exact Ecf @e2, by exact Ecf @e3, by exact Er, by exact Er, by exact Er⟩ ?_
  · cases readN (unB a) s1 <;> simp
  · intro x hx
    simp [upd, show ¬ x = b by omega, show ¬ x = B by omega, show ¬ x = B + 1 by omega]; exact ho x hx
  rintro m ⟨t, hh, n⟩ ⟨i, hi, rfl, l, u, ver, cap, hl, hrd, hu, hrow, hb0, hb1, hb2, ho, e2, e3, e4, e10, e11⟩ hn1
  simp only at hl hrd hu hrow hb0 hb1 hb2 ho e2 e3 e4 e10 e11 hn1
  subst hn1
  refine Rkf (jn2 @e10 @e11) ?_
  refine AWP.seq ?_
  by_cases hlt : (i : Int) < unB a
  · have hw1 : IntKind.u64.wrap ((i : Int) + 1) = ((i + 1 : Nat) : Int) := by rw [wrap_u64]; omega
    obtain ⟨k, hk⟩ : ∃ k, unB a - i = k + 1 := ⟨unB a - i - 1, by omega⟩
    have hk2 : unB a - (i + 1) = k := by omega
    rw [hk] at hrd
    refine Btf @hlt ?_
    refine AWP.skip ?_
    refine Ev ?_
    refine AWP.seq ?_
    refine AWP.block ?_
    cases r2 : readF u with
    | none =>
      have hX : readT s = none := by
        rw [hrT, hrd]; simp [readN, r2]
      have hX2 : ∀ (t' : Nat → AV), t' 2 = .one (.ptr b 0 0) → t' 3 = .one (.ptr (b + 1) 0 0) → ∀ h', (∃ u', h' = upd hh (B) (rdV 0 u')) →
          rdQ Tryd.prog ⟨20, b, ι, h, w, x0⟩ Tryd.f26 s (.panic brk) ⟨t', h', 2⟩ := by
        rintro t' f2 f3 _ ⟨u', rfl⟩
        refine ⟨rfl, hX, ⟨_, _, (by show upd hh (B) (rdV 0 u') b = _; rw [upd_ne _ _ _ _ (by omega)]; exact hb0), (by show upd hh (B) (rdV 0 u') (b + 1) = _; rw [upd_ne _ _ _ _ (by omega)]; exact hb1)⟩, fun x (hx : x < b) => ?_, f2, f3⟩
        show upd hh (B) (rdV 0 u') x = h x
        rw [upd_ne _ _ _ _ (by omega)]; exact ho x hx
      have cF : PCalls Tryd.prog 41 [.one (.ptr (B) 0 0)] hh (B + 2) 0 (fun _ _ => False) (fun ch h' => ch = brk ∧ ∃ u', h' = upd hh (B) (rdV 0 u')) :=
        PCalls.mono (rfile_ok u hh (B + 2) (B) 0 (by omega) hb2) (fun r h' ⟨f, u, hf, _⟩ => by rw [r2] at hf; cases hf) (fun ch h' ⟨h1, _, h3⟩ => ⟨h1, h3⟩)
      refine AWP.regA mixed (by kernel_rfl) (fun E K hE hK => ?_)
      refine evAny_two (f := 5) 0 1 _ _ (by kernel_rfl) rfl rfl rfl rfl ?_ ?_
      · refine Evf (jn2 @e2 @hb0) ?_
        refine evAny_one (f := 4) 1 _ (by kernel_rfl) rfl rfl ?_
        refine Evf @e4 ?_
        refine evAny_one (f := 3) 2 _ (by kernel_rfl) rfl rfl ?_
        refine Ev ?_
        refine CallR.useX cF body_41 (fun ch h' ⟨h1, h2⟩ => by subst h1; exact hE _ _ (hX2 _ (by exact Ecf @e2) (by exact Ecf @e3) h' h2))
      · refine Evf @e4 ?_
        refine evAny_two (f := 4) 0 2 _ _ (by kernel_rfl) rfl rfl rfl rfl ?_ ?_
        · refine Evf (jn2 @e2 @hb0) ?_
          refine evAny_one (f := 3) 2 _ (by kernel_rfl) rfl rfl ?_
          refine Ev ?_
          refine CallR.useX cF body_41 (fun ch h' ⟨h1, h2⟩ => by subst h1; exact hE _ _ (hX2 _ (by exact Ecf @e2) (by exact Ecf @e3) h' h2))
        · refine Ev ?_
          refine CallR.useX cF body_41 (fun ch h' ⟨h1, h2⟩ => by subst h1; exact hE _ _ (hX2 _ (by exact Ecf @e2) (by exact Ecf @e3) h' h2))
    | some p2 =>
    obtain ⟨f, u2⟩ := p2
    have hrd2 : readN (unB a) s1 = (readN k u2).map fun r => ((l ++ [f]) ++ r.1, r.2) := by
      rw [hrd]
      simp only [readN, r2, Option.bind_some]
      cases readN k u2 <;> simp
    have cF : ACalls Tryd.prog 41 [.one (.ptr (B) 0 0)] hh (B + 2) 0 (fun r h' => r = FlV f ∧ h' = upd hh (B) (rdV 0 u2)) :=
      PCalls.toA (rfile_ok u hh (B + 2) (B) 0 (by omega) hb2) (fun ch h' ⟨_, h2, _⟩ => by rw [r2] at h2; cases h2) (fun r h' ⟨f', u', hf, h1, h2⟩ => by
        rw [r2] at hf; injection hf with hf; injection hf with g1 g2; subst g1; subst g2; exact ⟨h1, h2⟩)
    have hbu := readF_bd r2
    obtain ⟨T, hr0, hr1, hr2⟩ := hrow
    have n1 : ¬ B = B + 1 := by omega
    refine Rel [B, (B + 1)] 5 (jn7 e2 e4 hb0 hb2 hr0 m0 m4) (fun K hK => ?_)
    refine CallD.use cF body_41 ?_
    rintro _ _ ⟨rfl, rfl⟩
    refine ⟨?_, ?_⟩
    · exact sub_del2 (fun i (h1 : i ≠ B) _ => upd_ne _ _ _ _ h1)
    refine Ev ?_
    refine BiD.of ?_
    refine append_flg (f := f) ⟨T, by rw [upd_ne _ _ _ _ (by omega)]; exact hr0, hr1, hr2⟩ (by simp [srcA]) (by omega) (fun cap' T' g1 g2 => ?_)
    refine ⟨sub_del2 (fun i h1 h2 => by rw [upd_ne _ _ _ _ h2, upd_ne _ _ _ _ h1]), ?_⟩
    have m1 : ¬ b = (B + 1) := by omega
    have m2 : ¬ b = B := by omega
    refine Evf (jn4 @e2 @hb0 @m1 @m2) ?_
    refine hK _ _ _ ?_; clear hK K
    refine Ev ?_
    refine Raf (jn2 @e11 @hw1) (fun E K hE hK => ?_); refine hK _ _ _ ?_; clear hE hK K E
    have hlf : (l ++ [f]).length = l.length + 1 := by simp
    refine ⟨Nat.le_refl _, unB a - (i + 1), by omega, i + 1, by omega, rfl, l ++ [f], u2, ver + 1, cap', by rw [hlf, hl], by rw [hk2]; exact hrd2, by omega, FlRow.cut ⟨T', by simp [upd, show ¬ B + 1 = b by omega], by rw [hlf]; exact g1, g2⟩ (Nat.lt_succ_self _), cutH_same (show b < B + 2 by omega) (by rw [hlf]; exact Er) (by simp [lowCs, lowC]), cutH_same (show b + 1 < B + 2 by omega) (by simp [upd, m0, m3, m5]; exact hb1) rfl, cutH_same (show B < B + 2 by omega) (by simp [upd, show ¬ B = b by omega]) rfl, fun x hx => cutH_out2 hlow (show b ≤ B + 2 by omega) (by simp [upd, show ¬ x = b by omega, show ¬ x = B by omega, show ¬ x = (B + 1) by omega]; exact ho x hx) hx,
      by refine Evf @e2 ?_; exact cutV_ptr (by omega), by refine Evf @e3 ?_; exact cutV_ptr (by omega), by refine Evf @e4 ?_; exact cutV_ptr (by omega), by exact Ecf @e10, by exact Er⟩
  · refine Bff @hlt ?_
    refine AWP.exit ?_
    refine Ev ?_
    have hil : i = unB a := by omega
    subst hil
    rw [Nat.sub_self] at hrd
    have hT : readT s = some l := by rw [hrT, hrd]; simp [readN]
    obtain ⟨T, hr0, hr1, hr2⟩ := hrow
    have m1 : ¬ b + 1 = b := by omega
    refine Rgf (jn6 @e2 @e3 @hb0 @hb1 @m1 @hr0) (fun E K hE hK => ?_)
    refine hK _ _ _ ?_; clear hE hK K E
    refine AWP.ret ?_
    refine Ends.row (C := ⟨20, b, ι, h, w, x0⟩) hn0 H0 (fun x (hx : x < b) => ?_) (id := B + 1) (show b ≤ B + 1 by omega) (blk := rowB ver (l.map encF) T) ?_ (lowCs_app (lowCs_p _ _) (lowCs_mono (Nat.zero_le _) hr2)) (r0 := .tup [.one (.win ((B + 1)) ver 0 l.length cap), BoolV true])
      (by rw [show Tryd.f26.results.toList = [.cell 2 22, .cell 3 4] from rfl]; exact Erf (jn2 @e2 @e3)) (renV_tup2 (.one renC_win0) (.one (renC_p _))) ?_
    · simp [upd, show ¬ x = b by omega, show ¬ x = b + 1 by omega]; exact ho x hx
    · simp [upd, show ¬ B = b by omega, show ¬ B + 1 = b by omega]; exact hr0
    · show readR s h b _ _
      unfold readR
      rw [hT]
      exact ⟨ver, cap, T, by omega, by omega, hr2, rfl, rfl⟩
end Go.Proofs.YthnhpbihgalgeaaDoor

namespace Go.Proofs.YthnhpbihgalgeaaDoor
set_option linter.unusedSimpArgs false
set_option linter.unusedVariables false
set_option linter.unnecessarySimpa false
open Go Am
set_option maxRecDepth 100000

theorem moves_wide {ι : Nat → Nat} {h : Heap} {bd : Nat} {w : World} (k : Nat) : Moves ι h bd w ι h (bd + k) w :=
  ⟨Nat.le_add_right _ _, fun _ s _ => s, fun _ _ _ => rfl, fun _ _ b' hb' => ⟨b', hb', Nat.le_refl _, fun _ => rfl⟩⟩
theorem heap_wide {ι : Nat → Nat} {h : Heap} {bd : Nat} {w : World} (H : HeapOK ι h bd w) (k : Nat) : HeapOK ι h (bd + k) w := by
  refine ⟨fun id b hb hn => ?_, H.inj⟩
  obtain ⟨c, e, h1, h2, h3⟩ := H.blk id b hb hn
  exact ⟨c, e, h1, h2, fun j d u hd hu => (h3 j d u hd hu).move (moves_wide k)⟩
/-- what was walked from another entry on -/
theorem Inv.post {N b : Nat} {ι ι2 : Nat → Nat} {h : Heap} {w w2 : World} {x : Xt} {s : St} {a : Act} (I : Inv ⟨N, b, ι, h, w, x⟩ ι2 s a w2) : Post ι h b w s.n ι2 s.h w2 := ⟨I.outer, I.fresh, I.bound, I.heap, I.keeps⟩
theorem Inv.join {C : Ctx} {B : Nat} {ι1 ι2 : Nat → Nat} {t1 : Nat → AV} {h1 : Heap} {n1 : Nat} {a1 a2 : Act} {w1 w2 : World} {x : Xt} {s2 : St} (I1 : Inv C ι1 ⟨t1, h1, n1⟩ a1 w1) (hB : B = C.b + n1) (I2 : Inv ⟨C.N, B, ι1, h1, w1, x⟩ ι2 s2 a2 w2) :
    Inv C ι2 ⟨s2.t, s2.h, n1 + s2.n⟩ { a2 with defers := C.x.D } w2 := by
  subst hB
  have J := Post.inv I1 I2.post
  exact ⟨J.outer, J.fresh, J.bound, J.heap, fun t => by have := I2.tmps t; rw [Nat.add_assoc] at this; exact this, I2.ntmps, rfl, J.keeps⟩

theorem read_ok (s : S) (hs : s.length ≤ 70000) (h : Heap) (b : Nat) : ACalls Tryd.prog 26 [OctV s] h b 1 (readR s h b) := by
  intro ι w vs hbd hh ha
  have I := Inv.entry (N := 20) (by simp) hbd hh ha
  refine calls_of_wp_defers Tryd.func26 rfl ?_
  refine wp_seq ?_
  refine wp_mono (wpIn_wide.1 ((?hA : AWP Tryd.prog ⟨20, b, ι, h, w, x0⟩ _ (fun e st => e = .normal ∧ st.n = 2 ∧ st.h = upd (upd h b ⟨0, [.p (.v (.slice none 0 0))]⟩) (b + 1) ⟨0, [.p (.v (.bool false))]⟩ ∧ st.t 0 = OctV s ∧ st.t 2 = .one (.ptr b 0 0) ∧ st.t 3 = .one (.ptr (b + 1) 0 0)) _) _ w ι I)) ?_
  case hA =>
    refine Ra (fun E K hE hK => ?_); refine hK _ _ _ ?_; clear hE hK K E
    exact ⟨rfl, rfl, rfl, by exact Er, by exact Er, by exact Er⟩
  rintro e a1 w1 (⟨s1, ι1, ⟨rfl, hn1, hh1, e0, e2, e3⟩, I1⟩ | ⟨_, he⟩)
  case inr => exact he.elim
  obtain ⟨t1, h1, n1⟩ := s1
  simp only at hn1 hh1 e0 e2 e3
  subst hn1
  subst hh1
  have r2 := I1.tmps 2
  have r3 := I1.tmps 3
  have hsz : a1.tmps.size = 20 := I1.ntmps
  have hdf : a1.defers = [] := I1.defers
  simp only [e2] at r2
  simp only [e3] at r3
  show (Code.seq _ _).wp _ _ _ _
  refine wp_seq ?_
  apply wp_region
  obtain ⟨tm, df⟩ := a1
  simp only at hsz hdf r2 r3
  subst hdf
  have hmf : ∀ (fn : Fn) (first cap : Array Value) (w : World), (Instr.makeFunc fn first cap).run Tryd.prog w = .ok (.func fn first cap) w := fun _ _ _ _ => rfl
  simp [wpOps, go_sem, hmf, Exit.then, hsz]
  refine .inl (.inl ?_)
  have Ip := I1.put (d := some 5) (show 5 < 20 by decide) (av := .one .junk) (v := .func (.func 39) #[] #[tm[2], tm[3]]) (.one (.junk _))
  obtain ⟨d, hd⟩ : ∃ d : Deferred, d = { target := .fn (.func 39) #[tm[2], tm[3]], args := #[] } := ⟨_, rfl⟩
  rw [← hd]
  have Id : Inv ⟨20, b + 2, ι1, upd (upd h b ⟨0, [.p (.v (.slice none 0 0))]⟩) (b + 1) ⟨0, [.p (.v (.bool false))]⟩, w1, ⟨[d], none, fun _ _ => False⟩⟩ ι1 ⟨putT t1 (some 5) (.one .junk), upd (upd h b ⟨0, [.p (.v (.slice none 0 0))]⟩) (b + 1) ⟨0, [.p (.v (.bool false))]⟩, 0⟩
      { tmps := tm.setIfInBounds 5 (.func (.func 39) #[] #[tm[2], tm[3]]), defers := [d] } w1 :=
    ⟨fun id _ b' e => ⟨b', e, .refl _ _ _⟩, fun id hid b' e _ => (by have := Ip.bound id hid; rw [this] at e; cases e), Ip.bound, Ip.heap, Ip.tmps, Ip.ntmps, rfl, .refl _ _ _⟩
  refine wp_mono (wpIn_wide.1 (read_rest s hs [d] h _ b (b + 2) rfl ι ι1 w w1 hbd hh Ip.heap _ (by exact Ecf @e0) (by exact Ecf @e2) (by exact Ecf @e3) (by exact Er) (upd_same _ _ _) (fun i hi => by simp [upd, show ¬ i = b by omega, show ¬ i = b + 1 by omega]) _ rfl _ w1 ι1 Id)) ?_
  rintro e a2 w2 (⟨s2, ι2, hq, I2⟩ | ⟨_, he⟩)
  case inr => exact he.elim
  have hdf : a2.defers = [d] := I2.defers
  have J := Inv.join I1 rfl I2
  have ht : ∀ u, (Target.fn (.func 39) #[tm[2], tm[3]] = u) → True := fun _ _ => trivial
  cases e with
  | ret =>
    show Leaves _ _ _ _ a2.defers _ _
    rw [hdf, hd]
    refine leaves_cons (f := 39) (args := #[tm[2], tm[3]]) (by simp) (by simp [go_sem]) ?_
    refine (rdc_idle _ _ _).mono ?_
    rintro e u' w'' ⟨rfl, rfl, rfl⟩
    obtain ⟨v, r, h', ι', hr, hR, hp, hv⟩ := hq _ _ ι2 J
    exact ⟨v, hr, v, rfl, r, h', hR, ι', hp, hv⟩
  | panic ch =>
    obtain ⟨rfl, hT, ⟨c1, c2, k1, k2⟩, ho, f2, f3⟩ := hq
    show Leaves _ _ _ _ a2.defers _ _
    rw [hdf, hd]
    refine leaves_cons (f := 39) (args := #[tm[2], tm[3]]) (by simp [brk]) (by simp [go_sem]) ?_
    have J0 := Post.inv I1 I2.post
    have q2 := J0.tmps 2
    have q3 := J0.tmps 3
    simp only [e2] at q2
    simp only [e3] at q3
    have g2 : tm.getD 2 undef = tm[2] := by simp [Array.getD, hsz]
    have g3 : tm.getD 3 undef = tm[3] := by simp [Array.getD, hsz]
    rw [g2] at q2
    rw [g3] at q3
    refine (rdc_bad (id1 := b) (id2 := b + 1) (v1 := 0) (v2 := 0) J.bound J.heap q2 q3 k1 k2 (by omega) (show b < b + (2 + s2.n) by omega) (show b + 1 < b + (2 + s2.n) by omega)).mono ?_
    rintro e u' w'' ⟨rfl, ⟨en, rfl, hen⟩, h', ι', hp, hh'⟩
    have J2 := Post.inv J hp
    have hset : settle (.panicking [en]) = .returning := by
      obtain ⟨v, rc, ge⟩ := en
      simp only at hen
      subst hen
      rfl
    show Leaves _ _ _ _ [] (settle (.panicking [en])) w''
    rw [hset]
    have hE : Am.Ends Tryd.prog ⟨20, b, ι, h, w, x0⟩ Tryd.f26 1 (readR s h b) ⟨s2.t, h', 2 + s2.n + 0⟩ := by
      have hp0 : Am.Ends Tryd.prog ⟨20, b, ι, h, w, x0⟩ Tryd.f26 0 (readR s h b) ⟨s2.t, h', 2 + s2.n + 0⟩ := by
        refine Ends.pure hbd hh (fun i (hi : i < b) => ?_) (r0 := .tup [.one (.p (.v (.slice none 0 0))), BoolV false]) ?_ (frz_tup2 (.v _) (.v _)) ?_
        · rw [hh']; simp [upd, show ¬ i = b by omega, show ¬ i = b + 1 by omega]; exact ho i hi
        · rw [hh', show Tryd.f26.results.toList = [.cell 2 22, .cell 3 4] from rfl]
          have m1 : ¬ b = b + 1 := by omega
          exact Erf (jn3 @f2 @f3 @m1)
        · unfold readR; rw [hT]; exact ⟨rfl, rfl⟩
      intro a w ι I
      obtain ⟨v, r, h2, ι3, c1, c2, c3, c4⟩ := hp0 a w ι I
      exact ⟨v, r, h2, ι3, c1, c2, ⟨c3.outer, c3.fresh, fun id hid => c3.bound id (by omega), heap_wide c3.heap 1, c3.keeps⟩, c4.move (moves_wide 1)⟩
    obtain ⟨v, r, h2, ι3, hr, hR, hp2, hv⟩ := hE _ _ ι' J2
    exact ⟨v, hr, v, rfl, r, h2, hR, ι3, hp2, hv⟩
  | _ => exact hq.elim
end Go.Proofs.YthnhpbihgalgeaaDoor
