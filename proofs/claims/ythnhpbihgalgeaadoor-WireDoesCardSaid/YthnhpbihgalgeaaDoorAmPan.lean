/-
  The abstract machine: calls that panic; drawn regions in which one does.
-/
import Derived.Test.YthnhpbihgalgeaaDoorAmMore
namespace Go.Proofs.YthnhpbihgalgeaaDoor.Am
set_option linter.unusedSimpArgs false
set_option linter.unusedVariables false
set_option linter.unnecessarySimpa false
open Go

def EndsX (C : Ctx) (m : Nat) (X : List PanicEntry → Heap → Prop) (ch : List PanicEntry) (s : St) : Prop :=
  ∀ a w ι, Inv C ι s a w → ∃ h' ι', X ch h' ∧ Post C.ι C.h C.b C.w m ι' h' w
def bodyX (P : Program) (C : Ctx) (fn : Func) (m : Nat) (R : AV → Heap → Prop) (X : List PanicEntry → Heap → Prop) : Exit → St → Prop
  | .normal, s | .ret, s => Ends P C fn m R s
  | .panic ch, s => EndsX C m X ch s
  | _, _ => False
theorem bodyX_ret (P : Program) (C : Ctx) (fn : Func) (m : Nat) (R : AV → Heap → Prop) (X : List PanicEntry → Heap → Prop) (s : St) : bodyX P C fn m R X .ret s = Ends P C fn m R s := rfl
theorem bodyX_panic (P : Program) (C : Ctx) (fn : Func) (m : Nat) (R : AV → Heap → Prop) (X : List PanicEntry → Heap → Prop) (ch : List PanicEntry) (s : St) : bodyX P C fn m R X (.panic ch) s = EndsX C m X ch s := rfl
theorem thn_panic (K : St → Prop) (Q : Exit → St → Prop) (s : St) (ch : List PanicEntry) : thn K Q (.panic ch) s = Q (.panic ch) s := rfl
theorem inBlk_panic (id : Nat) (Q : Exit → St → Prop) (s : St) (ch : List PanicEntry) : inBlk id Q (.panic ch) s = Q (.panic ch) s := rfl
attribute [go_sem ↓] bodyX_ret bodyX_panic thn_panic inBlk_panic

theorem EndsX.low {C : Ctx} {X : List PanicEntry → Heap → Prop} {ch : List PanicEntry} {s : St}
    (hl : ∀ id, id < C.b → ∀ blk, s.h id = some blk → ∀ c ∈ blk.cells, lowC C.b c = true) (hX : X ch (lowH C.b s.h)) : EndsX C 0 X ch s := by
  intro a w ι I
  refine ⟨lowH C.b s.h, ι, hX, ⟨fun id hid b' e => I.outer id hid b' (lowH_some e).2, fun id hid b' e => ?_, fun id hid => ?_, I.heap.low hl, I.keeps⟩⟩
  · have := (lowH_some e).1; omega
  · unfold lowH; rw [if_neg (by omega)]
theorem EndsX.pure {C : Ctx} {X : List PanicEntry → Heap → Prop} {ch : List PanicEntry} {s : St} (hn : ∀ id, C.b ≤ id → C.h id = none) (H : HeapOK C.ι C.h C.b C.w) (he : ∀ id, id < C.b → s.h id = C.h id) (hX : X ch C.h) : EndsX C 0 X ch s :=
  .low (fun id hid blk e => H.lowCells id blk (by rw [← he id hid]; exact e)) (by rw [lowH_eq he hn]; exact hX)
theorem EndsX.turn {C : Ctx} {X : List PanicEntry → Heap → Prop} {ch : List PanicEntry} {s : St} {id : Nat} {blk : Blk} (hn : ∀ id, C.b ≤ id → C.h id = none) (H : HeapOK C.ι C.h C.b C.w) (hid : id < C.b)
    (he : ∀ i, i < C.b → s.h i = upd C.h id blk i) (hlow : lowCs C.b blk.cells = true) (hX : X ch (upd C.h id blk)) : EndsX C 0 X ch s := by
  refine EndsX.low (fun i hi b0 e c hc => ?_) ?_
  · rw [he i hi] at e
    by_cases h : i = id
    · subst h; rw [upd_same] at e; injection e with e; subst e; exact lowCs_mem hlow c hc
    · rw [upd_ne _ _ _ _ h] at e; exact H.lowCells i b0 e c hc
  · rw [lowH_eq he (fun i hi => by rw [upd_ne _ _ _ _ (by omega)]; exact hn i hi)]
    exact hX

theorem PCalls.enter {P : Program} {f : FuncId} {fn : Func} {c : Code} {args : List AV} {h : Heap} {b m : Nat} {R : AV → Heap → Prop} {X : List PanicEntry → Heap → Prop}
    (hf : P.funcs[f]? = some fn) (hb : fn.body = some c) (hn : args.length ≤ fn.ntmps)
    (hw : ∀ (ι : Nat → Nat) (w : World), (∀ id, b ≤ id → h id = none) → HeapOK ι h b w → AWP P ⟨fn.ntmps, b, ι, h, w, x0⟩ c (bodyX P ⟨fn.ntmps, b, ι, h, w, x0⟩ fn m R X) ⟨argsT args, h, 0⟩) : PCalls P f args h b m R X := by
  intro ι w vs hbd hh ha
  refine calls_of_wp hf hb ?_
  have I := Inv.entry (N := fn.ntmps) hn hbd hh ha
  refine wp_mono (wpIn_wide.1 (hw ι w hbd hh _ w ι I)) ?_
  rintro e a' w' (⟨s', ι', q, I'⟩ | ⟨_, he⟩)
  case inr => exact he.elim
  cases e <;> first | exact q.elim | skip
  case panic ch =>
    obtain ⟨h', ι2, hX, hp⟩ := q a' w' ι' I'
    exact ⟨I'.defers, .inr ⟨ch, h', ι2, rfl, hX, hp⟩⟩
  all_goals
    obtain ⟨v, r, h', ι2, hr, hR, hp, hv⟩ := q a' w' ι' I'
    exact ⟨I'.defers, v, hr, .inl ⟨v, r, h', ι2, rfl, hR, hp, hv⟩⟩

theorem ACalls.toP {P : Program} {f : FuncId} {args : List AV} {h : Heap} {b m : Nat} {R : AV → Heap → Prop} {X : List PanicEntry → Heap → Prop} (c : ACalls P f args h b m R) : PCalls P f args h b m R X :=
  fun ι w vs hb hh ha => (c ι w vs hb hh ha).mono fun _ _ q => .inl q

/-- a call that may panic -/
theorem CallR.useP {P : Program} {C : Ctx} {E : Exit → St → Prop} {g : FuncId} {args : List AV} {dst : Option Tmp} {os : List Oper} {pre : List (Option Tmp)} {t : Nat → AV} {h : Heap} {n m : Nat} {K : FinT} {R : AV → Heap → Prop} {X : List PanicEntry → Heap → Prop}
    (c : PCalls P g args h (C.b + n) m R X) (hb : bodyB P g = true) (k : ∀ r h', R r h' → evOps P C E os (pre ++ [dst]) (putT t dst r) h' (n + m) K) (kx : ∀ ch h', X ch h' → E (.panic ch) ⟨t, h', n + m⟩) : CallR P C E g args dst os pre t h n K :=
  .inr (.inr ⟨m, R, X, hb, c, k, kx⟩)
/-- .. that does -/
theorem CallR.useX {P : Program} {C : Ctx} {E : Exit → St → Prop} {g : FuncId} {args : List AV} {dst : Option Tmp} {os : List Oper} {pre : List (Option Tmp)} {t : Nat → AV} {h : Heap} {n m : Nat} {K : FinT} {X : List PanicEntry → Heap → Prop}
    (c : PCalls P g args h (C.b + n) m (fun _ _ => False) X) (hb : bodyB P g = true) (kx : ∀ ch h', X ch h' → E (.panic ch) ⟨t, h', n + m⟩) : CallR P C E g args dst os pre t h n K :=
  CallR.useP c hb (fun _ _ q => q.elim) kx

/-! ### drawn regions, one order behind the other -/
def evAny (P : Program) (C : Ctx) (E : Exit → St → Prop) (ops : Array Oper) : Nat → Array Bool → (Nat → AV) → Heap → Nat → FinT → Prop
  | 0, listed, t, h, n, K => Region.ready .any ops listed = [] ∧ K t h n
  | f + 1, listed, t, h, n, K => match Region.ready .any ops listed with
    | [] => K t h n
    | rs => ∀ i ∈ rs, match ops[i]? with
      | some o => o.guard = none ∧ evOps P C E [o] [] t h n (fun t' h' n' => evAny P C E ops f (listed.setIfInBounds i true) t' h' n' K)
      | none => False

theorem evAny_ok {P : Program} {C : Ctx} {E : Exit → St → Prop} {ops : Array Oper} {Q : Exit → Act → World → Prop} {K : FinT} (hN : dstsB C.N ops.toList = true)
    (hQ : ∀ e s' ι' a' w', E e s' → Inv C ι' s' a' w' → Q e a' w') (hK : ∀ t h n ι a w, K t h n → Inv C ι ⟨t, h, n⟩ a w → Q .normal a w) :
    ∀ (f : Nat) (listed : Array Bool) (t : Nat → AV) (h : Heap) (n : Nat) (a : Act) (w : World) (ι : Nat → Nat), Inv C ι ⟨t, h, n⟩ a w → evAny P C E ops f listed t h n K → wpAny P .any ops Q f listed a w := by
  intro f
  induction f with
  | zero =>
    intro listed t h n a w ι I e
    exact ⟨e.1, hK _ _ _ _ _ _ e.2 I⟩
  | succ f ih =>
    intro listed t h n a w ι I e
    unfold evAny at e
    refine ⟨fun hr => ?_, fun i hi => ?_⟩
    · rw [hr] at e
      exact hK _ _ _ _ _ _ e I
    · split at e
      · rename_i hr; rw [hr] at hi; cases hi
      · have e := e i hi
        split at e
        · rename_i o ho
          obtain ⟨hg, e⟩ := e
          unfold wpOp
          rw [ho]
          have hw : Region.wanted o (yielded ops a.tmps) = true := by unfold Region.wanted; rw [hg]
          simp only [hw, if_true]
          refine .inl ?_
          have hd : dstOK C.N o.dst := by
            have := List.all_eq_true.1 hN o (List.mem_of_getElem? (i := i) (by simpa using ho))
            unfold dstOK
            cases hdd : o.dst with
            | none => trivial
            | some d => rw [hdd] at this; simpa using this
          unfold evOps at e
          rw [hg] at e
          refine aop_ok e a w ι I _ Q hQ (fun v av h' n' ι' w' hk I' hv => ?_)
          exact ih _ _ _ _ _ _ _ (I'.put hd hv) hk
        · exact e.elim

/-- a drawn region alone, one order behind the other -/
theorem AWP.regA {P : Program} {C : Ctx} {Q : Exit → St → Prop} {s : St} {id : Nat} {ops : Array Oper} (hm : P.follows .mixedOrders = true) (hN : dstsB C.N ops.toList = true)
    (e : ∀ (E : Exit → St → Prop) (K : FinT), (∀ e s, Q e s → E e s) → (∀ t h n, Q .normal ⟨t, h, n⟩ → K t h n) → evAny P C E ops ops.size (Array.replicate ops.size false) s.t s.h s.n K) (hr : C.x.rd = none := by rfl) : AWP P C (.region id ops true) Q s := by
  refine AWP.of_wp hr (fun a w ι I => ?_)
  refine wp_region_any hm ?_
  exact evAny_ok hN (fun e s' ι' a' w' q I' => ⟨s', ι', q, I'⟩) (fun t h n ι a w q I' => ⟨⟨t, h, n⟩, ι, q, I'⟩) _ _ _ _ _ _ _ ι I.drew (e _ _ (fun _ _ q => q) (fun _ _ _ q => q))
/-- what may be carried out next -/
theorem evAny_at {P : Program} {C : Ctx} {E : Exit → St → Prop} {ops : Array Oper} {f : Nat} {listed : Array Bool} {t : Nat → AV} {h : Heap} {n : Nat} {K : FinT} (rs : List Nat) (hr : Region.ready .any ops listed = rs) (hne : rs ≠ [])
    (e : ∀ i ∈ rs, match ops[i]? with
      | some o => o.guard = none ∧ evOps P C E [o] [] t h n (fun t' h' n' => evAny P C E ops f (listed.setIfInBounds i true) t' h' n' K)
      | none => False) : evAny P C E ops (f + 1) listed t h n K := by
  unfold evAny
  rw [hr]
  cases rs with
  | nil => exact absurd rfl hne
  | cons x xs => exact e
theorem evAny_one {P : Program} {C : Ctx} {E : Exit → St → Prop} {ops : Array Oper} {f : Nat} {listed : Array Bool} {t : Nat → AV} {h : Heap} {n : Nat} {K : FinT} (i : Nat) (o : Oper) (hr : Region.ready .any ops listed = [i]) (ho : ops.toList[i]? = some o) (hg : o.guard = none)
    (e : evOps P C E [o] [] t h n (fun t' h' n' => evAny P C E ops f (listed.setIfInBounds i true) t' h' n' K)) : evAny P C E ops (f + 1) listed t h n K :=
  evAny_at [i] hr (by simp) (fun j hj => by simp at hj; subst hj; rw [← Array.getElem?_toList, ho]; exact ⟨hg, e⟩)

theorem evAny_two {P : Program} {C : Ctx} {E : Exit → St → Prop} {ops : Array Oper} {f : Nat} {listed : Array Bool} {t : Nat → AV} {h : Heap} {n : Nat} {K : FinT} (i j : Nat) (o o2 : Oper) (hr : Region.ready .any ops listed = [i, j]) (ho : ops.toList[i]? = some o) (hg : o.guard = none) (ho2 : ops.toList[j]? = some o2) (hg2 : o2.guard = none)
    (e : evOps P C E [o] [] t h n (fun t' h' n' => evAny P C E ops f (listed.setIfInBounds i true) t' h' n' K))
    (e2 : evOps P C E [o2] [] t h n (fun t' h' n' => evAny P C E ops f (listed.setIfInBounds j true) t' h' n' K)) : evAny P C E ops (f + 1) listed t h n K :=
  evAny_at [i, j] hr (by simp) (fun k hk => by simp at hk; rcases hk with rfl | rfl; · rw [← Array.getElem?_toList, ho]; exact ⟨hg, e⟩
                                               rw [← Array.getElem?_toList, ho2]; exact ⟨hg2, e2⟩)
end Go.Proofs.YthnhpbihgalgeaaDoor.Am
