/-
  The abstract machine: operations that lay and write memory, calls, lists of operations, regions; The abstract machine: the evaluator of a region's operations; regions; how a body ends; The abstract machine: what the evaluator's steps are simplified by.
-/
import Derived.Test.YtengjcdilnikhaaDoorAmSopOk
namespace Go.Proofs.YtengjcdilnikhaaDoor.Am
set_option linter.unusedSimpArgs false
set_option linter.unusedVariables false
set_option linter.unnecessarySimpa false
open Go

abbrev KT := AV → Heap → Nat → Prop

/-- an operation, semantically: whatever K holds of, the walk goes on with; E: the ways out -/
def AOp (P : Program) (C : Ctx) (o : Oper) (s : St) (E : Exit → St → Prop) (K : KT) : Prop :=
  ∀ a w ι, Inv C ι s a w → ∀ (next : Act → World → Prop) (Q : Exit → Act → World → Prop), (∀ e s' ι' a' w', E e s' → Inv C ι' s' a' w' → Q e a' w') →
    (∀ v av h' n' ι' w', K av h' n' → Inv C ι' ⟨s.t, h', n'⟩ a w' → RAV ι' h' (C.b + n') w' av v → next (a.put o.dst v) w') → o.wp P a w next Q

/-- a computation of a value, semantically -/
def Gives (P : Program) (C : Ctx) (t : Nat → AV) (h : Heap) (n : Nat) (m : (Operand → Value) → Sem Value) (K : KT) : Prop :=
  ∀ a w ι, Inv C ι ⟨t, h, n⟩ a w → ∃ v w' av h' n' ι', (m a.eval).run P w = .ok v w' ∧ K av h' n' ∧ Inv C ι' ⟨t, h', n'⟩ a w' ∧ RAV ι' h' (C.b + n') w' av v

theorem AOp.of_gives {P : Program} {C : Ctx} {o : Oper} {t : Nat → AV} {h : Heap} {n : Nat} {E : Exit → St → Prop} {K : KT} {m : (Operand → Value) → Sem Value}
    (hm : ∀ ρ, execOp ρ o = (do pure (.value (← m ρ)))) (g : Gives P C t h n m K) : AOp P C o ⟨t, h, n⟩ E K := by
  intro a w ι I next Q _ hn
  obtain ⟨v, w', av, h', n', ι', h1, h2, h3, h4⟩ := g a w ι I
  unfold Oper.wp
  rw [hm]
  simp only [Sem.run_bind, h1, Result.andThen, Sem.run_pure, Oper.upon_value]
  exact hn v av h' n' ι' w' h2 h3 h4

theorem AOp.of_sop {P : Program} {C : Ctx} {o : Oper} {s : St} {E : Exit → St → Prop} {K : KT} {av : AV} (e : sop P s.t s.h o = some av) (hk : K av s.h s.n) : AOp P C o s E K := by
  intro a w ι I next Q _ hn
  obtain ⟨v, h1, h2⟩ := sop_ok (P := P) (val_ok I) I.heap e
  unfold Oper.wp
  rw [h1, Oper.upon_value]
  exact hn v av s.h s.n ι w hk I h2

/-! ### blocks -/
theorem Gives.laid {P : Program} {C : Ctx} {t : Nat → AV} {h : Heap} {n : Nat} {m : (Operand → Value) → Sem Value} {K : KT} (cs : List Cell) (val : AV)
    (hm : ∀ a w ι, Inv C ι ⟨t, h, n⟩ a w → ∃ (V : Array Value) (ty : TypeId) (v : Value), (m a.eval).run P w = .ok v (w.alloc (.cells V ty)) ∧ Reps ι h (C.b + n) w cs V.toList ∧
      RAV (ren ι (C.b + n) w.heap.size) (upd h (C.b + n) ⟨0, cs⟩) (C.b + (n + 1)) (w.alloc (.cells V ty)) val v)
    (hk : K val (upd h (C.b + n) ⟨0, cs⟩) (n + 1)) : Gives P C t h n m K := by
  intro a w ι I
  obtain ⟨V, ty, v, h1, h2, h3⟩ := hm a w ι I
  have hb : h (C.b + n) = none := I.bound _ (Nat.le_refl _)
  obtain ⟨_, I'⟩ := I.place (C.b + n) (n + 1) (Nat.le_succ _) (by omega) 0 (fun b e => by have e' : h (C.b + n) = some b := e; rw [hb] at e'; cases e') (fun _ => Nat.le_refl _) cs V ty (by simpa using h2.1)
    (fun j d u hd hu => h2.2 j d u hd (by simpa using hu))
  exact ⟨v, _, val, _, _, _, h1, hk, I', h3⟩

/-- the result of a laid block: a pointer to its head -/
theorem rav_new_ptr {C : Ctx} {ι : Nat → Nat} {h : Heap} {n : Nat} {w' : World} {cs : List Cell} (g : Nat) :
    RAV (ren ι (C.b + n) g) (upd h (C.b + n) ⟨0, cs⟩) (C.b + (n + 1)) w' (.one (.ptr (C.b + n) 0 0)) (.pointer (some ⟨g, 0, none⟩)) := by
  refine .one (.ptr (by omega) (fun blk e => by rw [upd_same] at e; injection e with e; subst e; exact Nat.le_refl _) (fun blk e _ => ?_))
  rw [ren_same]

theorem rav_new_win {C : Ctx} {ι : Nat → Nat} {h : Heap} {n : Nat} {w' : World} {cs : List Cell} (g len cap : Nat) (hl : len ≤ cap) :
    RAV (ren ι (C.b + n) g) (upd h (C.b + n) ⟨0, cs⟩) (C.b + (n + 1)) w' (.one (.win (C.b + n) 0 0 len cap)) (.slice (some ⟨g, 0, none⟩) len cap) := by
  refine .one (.win (by omega) (fun blk e => by rw [upd_same] at e; injection e with e; subst e; exact Nat.le_refl _) (fun blk e _ => ⟨hl, .inl ?_⟩))
  rw [ren_same]

def okA (h : Heap) : AV → Bool
  | .one c => okC h c
  | .agg _ => true
  | .tup _ => false

theorem reps_okA {ι : Nat → Nat} {h : Heap} {bd : Nat} {w : World} {x : AV} {X : Value} (r : RAV ι h bd w x X) (ok : okA h x = true) : Reps ι h bd w (cellsA x) X.cells.toList :=
  reps_cells r (fun c e => by subst e; exact ok) (fun vs e => by subst e; cases ok)

theorem box_ok {P : Program} {C : Ctx} {t : Nat → AV} {h : Heap} {n : Nat} {K : KT} {ty : TypeId} {x : Operand} (ok : okA h (val t x) = true)
    (hk : K (.one (.ptr (C.b + n) 0 0)) (upd h (C.b + n) ⟨0, cellsA (val t x)⟩) (n + 1)) : Gives P C t h n (fun ρ => Instr.box ty (ρ x)) K := by
  refine .laid _ _ (fun a w ι I => ?_) hk
  have r := val_ok I x
  exact ⟨(a.eval x).cells, ty, .pointer (some ⟨w.heap.size, 0, none⟩), rfl, reps_okA r ok, rav_new_ptr w.heap.size⟩

theorem alloc_ok {P : Program} {C : Ctx} {t : Nat → AV} {h : Heap} {n : Nat} {K : KT} {ty : TypeId} {zs : List Value} (hz : tzero P ty = some zs)
    (hk : K (.one (.ptr (C.b + n) 0 0)) (upd h (C.b + n) ⟨0, zs.map fun v => .p (.v v)⟩) (n + 1)) : Gives P C t h n (fun _ => Instr.alloc ty true (.tuple #[])) K := by
  refine .laid _ _ (fun a w ι I => ?_) hk
  obtain ⟨i, z, hi, hiz, hzs⟩ := tzero_run hz
  refine ⟨z.cells, ty, .pointer (some ⟨w.heap.size, 0, none⟩), ?_, by rw [hzs]; exact reps_vs zs, rav_new_ptr w.heap.size⟩
  have : (zeroValue ty).run P w = .ok z w := by simp [zeroValue, typeInfo, hi, hiz]
  simp only [Instr.alloc, Sem.run_bind, this, Result.andThen, newVar, newRow, run_newObj, Sem.run_pure]
  rfl

/-- n times the same cells -/
def repl {α : Type} (zs : List α) : Nat → List α
  | 0 => []
  | n + 1 => zs ++ repl zs n

theorem repl_length {α : Type} (zs : List α) (n : Nat) : (repl zs n).length = n * zs.length := by
  induction n with
  | zero => simp [repl]
  | succ n ih => simp [repl, ih, Nat.add_mul]; omega

theorem repl_get {α : Type} (zs : List α) : ∀ (n i : Nat), i < n * zs.length → (repl zs n)[i]? = zs[i % zs.length]?
  | 0, i, h => by simp at h
  | n + 1, i, h => by
    have hz : 0 < zs.length := by
      rcases Nat.eq_zero_or_pos zs.length with h0 | h0
      · rw [h0] at h; simp at h
      · exact h0
    simp only [repl, List.getElem?_append]
    by_cases hi : i < zs.length
    · rw [if_pos hi, Nat.mod_eq_of_lt hi]
    · rw [if_neg hi, repl_get zs n (i - zs.length) (by rw [Nat.add_mul] at h; omega)]
      congr 1
      exact (Nat.mod_eq_sub_mod (by omega)).symm

theorem repl_map {α β : Type} (f : α → β) (zs : List α) (n : Nat) : repl (zs.map f) n = (repl zs n).map f := by
  induction n with
  | zero => rfl
  | succ n ih => simp [repl, ih]

theorem range_repl (zs : List Value) (n sz : Nat) (hs : zs.length = sz) : ((Array.range (n * sz)).map (zs.toArray[· % zs.toArray.size]!)) = (repl zs n).toArray := by
  apply Array.ext'
  apply List.ext_getElem?
  intro i
  by_cases hi : i < n * sz
  · have hz : 0 < sz := by
      rcases Nat.eq_zero_or_pos sz with h0 | h0
      · rw [h0] at hi; simp at hi
      · exact h0
    have hm : i % zs.length < zs.length := Nat.mod_lt _ (by omega)
    rw [repl_get zs n i (by rw [hs]; exact hi)]
    simp [hi, hm]
  · have e1 : (repl zs n)[i]? = none := List.getElem?_eq_none (by rw [repl_length, hs]; omega)
    rw [e1]
    simp [hi]

def bslA (P : Program) (h : Heap) (ty : TypeId) (len : Nat) (parts : List (Nat × AV)) : Option (List Cell) :=
  match slE P ty with
  | some e => match tsz P e, tzero P e with
    | some z, some zs => if zs.length = z ∧ (0 < len * z ∨ len = 0) ∧ len * z ≤ 16777216 then fillA h (fun i => some (i * z, z)) (repl (zs.map fun v => .p (.v v)) len) parts else none
    | _, _ => none
  | none => none

theorem reps_repl {ι : Nat → Nat} {h : Heap} {bd : Nat} {w : World} (zs : List Value) (n : Nat) : Reps ι h bd w (repl (zs.map fun v => Cell.p (.v v)) n) (repl zs n) := by
  rw [repl_map]
  exact reps_vs _

theorem parts_ok {ι : Nat → Nat} {h : Heap} {bd : Nat} {w : World} {t : Nat → AV} {ρ : Operand → Value} (rel : ∀ x, RAV ι h bd w (val t x) (ρ x)) (parts : Array (Nat × Operand)) :
    ∀ (k i : Nat) (x : AV), (parts.toList.map fun (i, x) => (i, val t x))[k]? = some (i, x) → ∃ X, ((parts.map fun (i, x) => (i, ρ x)).toList)[k]? = some (i, X) ∧ RAV ι h bd w x X := by
  intro k i x hk
  rw [List.getElem?_map] at hk
  cases hq : parts.toList[k]? with
  | none => rw [hq] at hk; simp at hk
  | some q =>
    obtain ⟨j, y⟩ := q
    rw [hq] at hk
    simp at hk
    obtain ⟨rfl, rfl⟩ := hk
    exact ⟨ρ y, by rw [Array.toList_map, List.getElem?_map, hq]; rfl, rel y⟩

theorem bsl_ok {P : Program} {C : Ctx} {t : Nat → AV} {h : Heap} {n : Nat} {K : KT} {ty : TypeId} {len : Nat} {parts : Array (Nat × Operand)} {cs : List Cell}
    (e : bslA P h ty len (parts.toList.map fun (i, x) => (i, val t x)) = some cs)
    (hk : K (.one (.win (C.b + n) 0 0 len len)) (upd h (C.b + n) ⟨0, cs⟩) (n + 1)) : Gives P C t h n (fun ρ => Instr.buildSlice ty len (parts.map fun (i, x) => (i, ρ x))) K := by
  refine .laid _ _ (fun a w ι I => ?_) hk
  unfold bslA at e
  split at e
  · rename_i el hel
    split at e
    · rename_i z zs hsz hz
      split at e
      · rename_i hc
        obtain ⟨hzl, h0, hle⟩ := hc
        obtain ⟨i, zv, hi, hiz, hzs⟩ := tzero_run hz
        obtain ⟨V', h1, h2⟩ := fill_ok _ ((parts.map fun (i, x) => (i, a.eval x)).toList) (by simp) (parts_ok (val_ok I) parts) _ (repl zs len).toArray (by simpa using reps_repl zs len) cs e
        refine ⟨V', el, .slice (some ⟨w.heap.size, 0, none⟩) len len, ?_, h2, rav_new_win w.heap.size len len (Nat.le_refl _)⟩
        rcases h0 with h0 | rfl
        case inr =>
          have h1' : Instr.fill (fun i => some (i * z, z)) #[] (parts.map fun (i, x) => (i, a.eval x)).toList = some V' := h1
          simp only [Instr.buildSlice, Sem.run_bind, run_underlying (slE_run hel), tsz_run hsz, Result.andThen]
          rw [if_neg (by omega), if_pos (by omega)]
          simp only [Sem.run_bind, Result.andThen, Sem.run_pure, Nat.zero_mul, Array.range_zero', Array.map_empty]
          rw [h1']
          rfl
        have hzr : (zeroValue el).run P w = .ok zv w := by simp [zeroValue, typeInfo, hi, hiz]
        have hzc : zv.cells = zs.toArray := by apply Array.ext'; simpa using hzs
        have hr := range_repl zs len z hzl
        simp only [Instr.buildSlice, Sem.run_bind, run_underlying (slE_run hel), tsz_run hsz, Result.andThen]
        rw [if_neg (by omega), if_neg (by omega)]
        simp only [Sem.run_bind, hzr, Result.andThen, Sem.run_pure, hzc]
        rw [hr, h1]
        rfl
      · cases e
    · cases e
  · cases e

/-! ### a store -/
def stA (P : Program) (ty : TypeId) (h : Heap) (x v : AV) : Option Heap :=
  match x with
  | .one (.ptr id ver off) => match h id with
    | some b => match v with
      | .agg [] => if b.ver = ver ∧ tsz P ty = some 0 then some h else none
      | v => if b.ver = ver ∧ okA h v = true ∧ (cellsA v).all (okC h) = true ∧ tsz P ty = some (cellsA v).length ∧ off + (cellsA v).length ≤ b.cells.length ∧ 0 < (cellsA v).length then some (upd h id ⟨ver, spl b.cells off (cellsA v)⟩) else none
    | none => none
  | _ => none

theorem st_ok {P : Program} {C : Ctx} {o : Oper} {t : Nat → AV} {h : Heap} {n : Nat} {E : Exit → St → Prop} {K : KT} {ty : TypeId} {x v : Operand} (ho : o.op = .store ty x v) {h' : Heap}
    (e : stA P ty h (val t x) (val t v) = some h') (hk : K (.one .junk) h' n) : AOp P C o ⟨t, h, n⟩ E K := by
  intro a w ι I next Q _ hn
  have rx := val_ok I x
  have rv := val_ok I v
  unfold stA at e
  split at e
  · rename_i id ver off hx
    have rx : RAV ι h (C.b + n) w (val t x) (a.eval x) := rx
    rw [hx] at rx
    split at e
    · rename_i b hb
      split at e
      · rename_i hv0
        split at e
        · rename_i hc
          obtain ⟨hver, hsz⟩ := hc
          injection e with e
          subst e
          have hX := ptr_inv rx hb hver
          have rv : RAV ι h (C.b + n) w (val t v) (a.eval v) := rv
          rw [hv0] at rv
          have hV : a.eval v = .agg #[] := by
            revert rv
            generalize a.eval v = V
            intro rv
            cases rv with
            | agg V hl _ => obtain rfl : V = [] := List.eq_nil_of_length_eq_zero hl; rfl
          unfold Oper.wp execOp
          simp only [ho]
          have hrun : (Instr.storeAt ty (a.eval x) (a.eval v)).run P w = .ok () w := by
            rw [hX, hV]
            simp only [Instr.storeAt, Instr.sureAddr, Sem.run_bind, Sem.run_pure, Result.andThen, storeVar, tsz_run hsz]
            rfl
          simp only [Sem.run_bind, hrun, Result.andThen, Sem.run_pure, Oper.upon_skip]
          exact hn undef (.one .junk) _ n ι _ hk I (.one (.junk _))
        · cases e
      split at e
      · rename_i hc
        obtain ⟨hver, hok, hall, hsz, hle, hpos⟩ := hc
        injection e with e
        subst e
        have hX := ptr_inv rx hb hver
        have hne : b.cells ≠ [] := by intro hh; rw [hh] at hle; simp only [List.length_nil] at hle; omega
        obtain ⟨c, ty', g1, g2, g3⟩ := I.heap.blk id b hb hne
        have q : Reps ι h (C.b + n) w (cellsA (val t v)) (a.eval v).cells.toList := reps_okA rv hok
        have ql := q.1
        have r0 : Reps ι h (C.b + n) w b.cells c.toList := ⟨by simpa using g2, fun j d u hd hu => g3 j d u hd (by simpa using hu)⟩
        have r1 := Reps.spl r0 q hle
        have hone : ∀ u ∈ (a.eval v).cells.toList, u.oneCell' = true := by
          intro u hu
          obtain ⟨j, hj⟩ := List.mem_iff_getElem?.1 hu
          have hlt : j < (cellsA (val t v)).length := by rw [← ql]; exact (List.getElem?_eq_some_iff.1 hj).1
          have hd : (cellsA (val t v))[j]? = some (cellsA (val t v))[j] := List.getElem?_eq_getElem hlt
          exact (okC_run (q.2 j _ u hd hj) (List.all_eq_true.1 hall _ (List.getElem_mem hlt))).1
        have hst := run_storeCells_at (P := P) (ι id) off ty' (a.eval v).cells.toList 0 c w g1 (by simp at ql ⊢; omega) hone
        obtain ⟨_, I'⟩ := I.write id b hb hne ver (Nat.le_of_eq hver) (spl b.cells off (cellsA (val t v))) (c.toList.take off ++ ((a.eval v).cells.toList ++ c.toList.drop (off + (a.eval v).cells.toList.length))).toArray
          (by have := r1.1; simp [spl]; omega) (by have := r1.1; simpa using this) (fun j d u hd hu => r1.2 j d u hd (by simpa using hu))
        unfold Oper.wp execOp
        simp only [ho]
        have hrun : (Instr.storeAt ty (a.eval x) (a.eval v)).run P w = .ok () (w.setRow (ι id) (c.toList.take off ++ ((a.eval v).cells.toList ++ c.toList.drop (off + (a.eval v).cells.toList.length))).toArray) := by
          rw [hX]
          simp only [Instr.storeAt, Instr.sureAddr, Sem.run_bind, Sem.run_pure, Result.andThen, storeVar, tsz_run hsz]
          rw [if_neg (by simp at ql ⊢; omega), hst]
          simp
        simp only [Sem.run_bind, hrun, Result.andThen, Sem.run_pure, Oper.upon_skip]
        exact hn undef (.one .junk) _ n ι _ hk I' (.one (.junk _))
      · cases e
    · cases e
  · cases e

/-! ### calls -/
def bodyB (P : Program) (g : FuncId) : Bool :=
  match P.funcs[g]? with
  | some fn => fn.body.isSome && fn.name != "runtime.NumGoroutine"
  | none => false

theorem callFunc_run {P : Program} {g : FuncId} (e : bodyB P g = true) (args : Array Value) (w : World) : (callFunc g args).run P w = .ok (.enter g args) w := by
  unfold bodyB at e
  split at e
  · rename_i fn hf
    simp only [Bool.and_eq_true, bne_iff_ne, ne_eq] at e
    have hb : fn.body.isNone = false := by cases h : fn.body <;> simp_all
    have hn : (fn.name == "runtime.NumGoroutine") = false := by simpa using e.2
    simp only [callFunc, Sem.run_bind, run_program, Result.andThen, hf, hn, hb]
    rfl
  · cases e

def junkT : Nat → AV := fun _ => .one .junk

theorem Inv.junk {C : Ctx} {ι : Nat → Nat} {t : Nat → AV} {h : Heap} {n : Nat} {a : Act} {w : World} (I : Inv C ι ⟨t, h, n⟩ a w) : Inv C ι ⟨junkT, h, n⟩ a w :=
  ⟨I.outer, I.fresh, I.bound, I.heap, fun _ => .one (.junk _), I.ntmps, I.defers, I.keeps⟩

theorem Inv.unjunk {C : Ctx} {ι ι' : Nat → Nat} {t t' : Nat → AV} {h h' : Heap} {n n' : Nat} {a : Act} {w w' : World} (I : Inv C ι ⟨t, h, n⟩ a w) (I' : Inv C ι' ⟨t', h', n'⟩ a w') (M : Moves ι h (C.b + n) w ι' h' (C.b + n') w') : Inv C ι' ⟨t, h', n'⟩ a w' :=
  ⟨I'.outer, I'.fresh, I'.bound, I'.heap, fun i => (I.tmps i).move M, I'.ntmps, I'.defers, I'.keeps⟩

/-- a call of a function that has no body, semantically -/
def ExtK (P : Program) (C : Ctx) (g : FuncId) (args : List AV) (h : Heap) (n : Nat) (K : KT) : Prop :=
  ∀ a w ι Vs, Inv C ι ⟨junkT, h, n⟩ a w → RAVs ι h (C.b + n) w args Vs → ∃ v w' av h' n' ι', (callFunc g Vs.toArray).run P w = .ok (.value v) w' ∧ K av h' n' ∧ Inv C ι' ⟨junkT, h', n'⟩ a w' ∧ RAV ι' h' (C.b + n') w' av v ∧
    Moves ι h (C.b + n) w ι' h' (C.b + n') w'

/-- called with these arguments it returns, and R holds of what is returned, and of the heap, or it panics, and X does -/
def PCalls (P : Program) (f : FuncId) (args : List AV) (h : Heap) (b m : Nat) (R : AV → Heap → Prop) (X : List PanicEntry → Heap → Prop) : Prop :=
  ∀ ι w vs, (∀ id, b ≤ id → h id = none) → HeapOK ι h b w → RAVs ι h b w args vs →
    Calls P f vs.toArray w fun e w' => (∃ v r h' ι', e = .returned v ∧ R r h' ∧ Post ι h b w m ι' h' w' ∧ RAV ι' h' (b + m) w' r v) ∨ (∃ ch h' ι', e = .panicked ch ∧ X ch h' ∧ Post ι h b w m ι' h' w')

/-- a call of a function, semantically -/
def CallK (P : Program) (C : Ctx) (E : Exit → St → Prop) (t : Nat → AV) (g : FuncId) (args : List AV) (h : Heap) (n : Nat) (K : KT) : Prop :=
  (∃ (m : Nat) (R : AV → Heap → Prop), bodyB P g = true ∧ ACalls P g args h (C.b + n) m R ∧ ∀ r h', R r h' → K r h' (n + m)) ∨ ExtK P C g args h n K ∨
  (∃ (m : Nat) (R : AV → Heap → Prop) (X : List PanicEntry → Heap → Prop), bodyB P g = true ∧ PCalls P g args h (C.b + n) m R X ∧ (∀ r h', R r h' → K r h' (n + m)) ∧ ∀ ch h', X ch h' → E (.panic ch) ⟨t, h', n + m⟩)

theorem Post.inv {C : Ctx} {ι ι' : Nat → Nat} {s : St} {a : Act} {w w' : World} {m : Nat} {h' : Heap} (I : Inv C ι s a w) (p : Post ι s.h (C.b + s.n) w m ι' h' w') : Inv C ι' ⟨s.t, h', s.n + m⟩ a w' := by
  have M : Moves ι s.h (C.b + s.n) w ι' h' (C.b + (s.n + m)) w' := by
    refine ⟨by omega, fun b hs hb id blk e ne => ?_, p.keeps.old, fun id hid b' e => ?_⟩
    · rcases Nat.lt_or_ge id (C.b + s.n) with hlt | hge
      · obtain ⟨b0, h0, h1, h2⟩ := p.outer id hlt blk e
        rcases h2 with ⟨h2, h3⟩ | ⟨_, h3⟩
        · rw [h3]
          exact hs id b0 h0 (len_nil h2 ne)
        · have := h3 ne; omega
      · have := p.fresh id hge blk e ne
        omega
    · obtain ⟨b0, h0, h1⟩ := p.outer id hid b' e
      exact ⟨b0, h0, h1.1, fun h => h1.place h⟩
  refine ⟨fun id hid b' e => ?_, fun id hid b' e ne => ?_, fun id hid => p.bound id (by simp only at hid; omega), ?_, fun t => (I.tmps t).move M, I.ntmps, I.defers, ?_⟩
  · obtain ⟨b0, h0, h1⟩ := p.outer id (by omega) b' e
    obtain ⟨b1, k0, k1⟩ := I.outer id hid b0 h0
    exact ⟨b1, k0, k1.trans h1 I.keeps.size⟩
  · rcases Nat.lt_or_ge id (C.b + s.n) with hlt | hge
    · obtain ⟨b0, h0, h1, h2⟩ := p.outer id hlt b' e
      rcases h2 with ⟨h2, h3⟩ | ⟨_, h3⟩
      · rw [h3]
        exact I.fresh id hid b0 h0 (len_nil h2 ne)
      · exact Nat.le_trans I.keeps.size (h3 ne)
    · exact Nat.le_trans I.keeps.size (p.fresh id hge b' e ne)
  · have := p.heap
    rw [Nat.add_assoc] at this
    exact this
  · refine ⟨Nat.le_trans I.keeps.size p.keeps.size, p.keeps.os.trans I.keeps.os, p.keeps.output.trans I.keeps.output, fun b hs hb => ?_⟩
    have hlt : b < w.heap.size := Nat.lt_of_lt_of_le hb I.keeps.size
    rw [p.keeps.old b (fun id blk e ne => ?_) hlt, I.keeps.old b hs hb]
    rcases Nat.lt_or_ge id C.b with h1 | h1
    · obtain ⟨b1, k0, k1, k2⟩ := I.outer id h1 blk e
      rcases k2 with ⟨k2, k3⟩ | ⟨_, k3⟩
      · rw [k3]
        exact hs id b1 k0 (len_nil k2 ne)
      · have := k3 ne; omega
    · have := I.fresh id h1 blk e ne
      omega

theorem RAVs.app {ι : Nat → Nat} {h : Heap} {bd : Nat} {w : World} {as bs : List AV} {va vb : List Value} (ha : RAVs ι h bd w as va) (hb : RAVs ι h bd w bs vb) : RAVs ι h bd w (as ++ bs) (va ++ vb) := by
  refine ⟨by simp [ha.1, hb.1], fun i c u hc hu => ?_⟩
  rw [List.getElem?_append] at hc hu
  rw [ha.1] at hu
  split at hc
  · rename_i hi; rw [if_pos hi] at hu; exact ha.2 i c u hc hu
  · rename_i hi; rw [if_neg hi] at hu; exact hb.2 _ c u hc hu

theorem ravs_map {ι : Nat → Nat} {h : Heap} {bd : Nat} {w : World} {t : Nat → AV} {ρ : Operand → Value} (rel : ∀ x, RAV ι h bd w (val t x) (ρ x)) (xs : List Operand) : RAVs ι h bd w (xs.map (val t)) (xs.map ρ) := by
  refine ⟨by simp, fun i c u hc hu => ?_⟩
  rw [List.getElem?_map] at hc hu
  cases hx : xs[i]? with
  | none => rw [hx] at hc; simp at hc
  | some x => rw [hx] at hc hu; simp at hc hu; subst hc; subst hu; exact rel x

theorem ravs_cells {ι : Nat → Nat} {h : Heap} {bd : Nat} {w : World} {cs : List Cell} {V : List Value} (hl : V.length = cs.length) (hv : ∀ (i : Nat) (c : Cell) (u : Value), cs[i]? = some c → V[i]? = some u → RCell ι h bd w c u) :
    RAVs ι h bd w (cs.map .one) V := by
  refine ⟨by simp [hl], fun i c u hc hu => ?_⟩
  rw [List.getElem?_map] at hc
  cases hx : cs[i]? with
  | none => rw [hx] at hc; simp at hc
  | some x => rw [hx] at hc; simp at hc; subst hc; exact .one (hv i x u hx hu)

theorem call_ok {P : Program} {C : Ctx} {o : Oper} {t : Nat → AV} {h : Heap} {n : Nat} {E : Exit → St → Prop} {K : KT} {f : Operand} {xs : Array Operand} {tys : Array TypeId} (ho : o.op = .call ⟨.value f, xs, tys⟩)
    {g : FuncId} {first cap : List Cell} (hf : val t f = .one (.clo (.func g) first cap)) (k : CallK P C E t g (first.map .one ++ xs.toList.map (val t) ++ cap.map .one) h n K) : AOp P C o ⟨t, h, n⟩ E K := by
  intro a w ι I next Q hQ hn
  have rf := val_ok I f
  have rf : RAV ι h (C.b + n) w (val t f) (a.eval f) := rf
  rw [hf] at rf
  have hF : ∃ F D : List Value, a.eval f = .func (.func g) F.toArray D.toArray ∧ RAVs ι h (C.b + n) w (first.map .one) F ∧ RAVs ι h (C.b + n) w (cap.map .one) D := by
    revert rf
    generalize a.eval f = X
    intro rf
    cases rf with
    | one hc => cases hc with | clo F D hF hD h1 h2 => exact ⟨F, D, rfl, ravs_cells hF h1, ravs_cells hD h2⟩
  obtain ⟨F, D, hX, r1, r3⟩ := hF
  have r2 := ravs_map (val_ok I) xs.toList
  rcases k with ⟨m, R, hb, hc, hk⟩ | k | ⟨m, R, X, hb, hc, hk, hx⟩
  case inr.inl =>
    obtain ⟨v, w', av, h', n', ι', h1, h2, h3, h4, h5⟩ := k a w ι _ I.junk (RAVs.app (RAVs.app r1 r2) r3)
    unfold Oper.wp execOp
    have hrun : (do let d ← resolve a.eval ⟨.value f, xs, tys⟩ o.type; invoke d.target d.args : Sem Next).run P w = .ok (.value v) w' := by
      simp only [resolve, Deferred.ofValue, hX, Sem.run_bind, Sem.run_pure, Result.andThen, invoke]
      rw [← h1]
      congr 2
      apply Array.ext'
      simp
    simp only [ho, hrun, Oper.upon_value]
    exact hn v av h' n' ι' w' h2 (I.unjunk h3 h5) h4
  have hrun : (do let d ← resolve a.eval ⟨.value f, xs, tys⟩ o.type; invoke d.target d.args : Sem Next).run P w = .ok (.enter g (F ++ xs.toList.map a.eval ++ D).toArray) w := by
    simp only [resolve, Deferred.ofValue, hX, Sem.run_bind, Sem.run_pure, Result.andThen, invoke, callFunc_run hb]
    congr 2
    apply Array.ext'
    simp
  · unfold Oper.wp execOp
    simp only [ho, hrun, Oper.upon_enter]
    refine (hc ι w _ (fun id hid => I.bound id hid) I.heap (RAVs.app (RAVs.app r1 r2) r3)).mono ?_
    rintro e w' ⟨v, r, h', ι', rfl, hR, hp, hv⟩
    exact hn v r h' (n + m) ι' w' (hk r h' hR) (Post.inv I hp) (by rw [← Nat.add_assoc]; exact hv)
  unfold Oper.wp execOp
  have hrun : (do let d ← resolve a.eval ⟨.value f, xs, tys⟩ o.type; invoke d.target d.args : Sem Next).run P w = .ok (.enter g (F ++ xs.toList.map a.eval ++ D).toArray) w := by
    simp only [resolve, Deferred.ofValue, hX, Sem.run_bind, Sem.run_pure, Result.andThen, invoke, callFunc_run hb]
    congr 2
    apply Array.ext'
    simp
  simp only [ho, hrun, Oper.upon_enter]
  refine (hc ι w _ (fun id hid => I.bound id hid) I.heap (RAVs.app (RAVs.app r1 r2) r3)).mono ?_
  rintro e w' (⟨v, r, h', ι', rfl, hR, hp, hv⟩ | ⟨ch, h', ι', rfl, hX', hp⟩)
  · exact hn v r h' (n + m) ι' w' (hk r h' hR) (Post.inv I hp) (by rw [← Nat.add_assoc]; exact hv)
  · exact hQ _ _ ι' a w' (hx ch h' hX') (Post.inv I hp)

end Go.Proofs.YtengjcdilnikhaaDoor.Am

namespace Go.Proofs.YtengjcdilnikhaaDoor.Am
set_option linter.unusedSimpArgs false
set_option linter.unusedVariables false
set_option linter.unnecessarySimpa false
open Go

/-- a builtin's value, semantically -/
def BiK (P : Program) (C : Ctx) (b : Builtin) (tys : List TypeId) (args : List AV) (h : Heap) (n : Nat) (K : KT) : Prop :=
  ∀ a w ι Vs, Inv C ι ⟨junkT, h, n⟩ a w → RAVs ι h (C.b + n) w args Vs → ∀ ty cs, ∃ v w' av h' n' ι', (builtin b tys.toArray ty cs Vs.toArray).run P w = .ok (.value v) w' ∧ K av h' n' ∧ Inv C ι' ⟨junkT, h', n'⟩ a w' ∧ RAV ι' h' (C.b + n') w' av v ∧
    Moves ι h (C.b + n) w ι' h' (C.b + n') w'

/-- an equality whose operands are no plain values, semantically -/
def EqlK (P : Program) (C : Ctx) (op : BinOp) (ty : TypeId) (ox oy : Operand) (x y : AV) (h : Heap) (n : Nat) (K : KT) : Prop :=
  ∀ a w ι X Y, Inv C ι ⟨junkT, h, n⟩ a w → RAV ι h (C.b + n) w x X → RAV ι h (C.b + n) w y Y → ∃ v w' av h' n' ι', (do eqGuard op ty ox oy X Y; binOp op ty X Y : Sem Value).run P w = .ok v w' ∧ K av h' n' ∧
    Inv C ι' ⟨junkT, h', n'⟩ a w' ∧ RAV ι' h' (C.b + n') w' av v ∧ Moves ι h (C.b + n) w ι' h' (C.b + n') w'

/-- a make of a slice, semantically -/
def MkK (P : Program) (C : Ctx) (ty : TypeId) (x y : AV) (h : Heap) (n : Nat) (K : KT) : Prop :=
  ∀ a w ι X Y, Inv C ι ⟨junkT, h, n⟩ a w → RAV ι h (C.b + n) w x X → RAV ι h (C.b + n) w y Y → ∃ v w' av h' n' ι', (Instr.makeSlice ty X Y).run P w = .ok v w' ∧ K av h' n' ∧
    Inv C ι' ⟨junkT, h', n'⟩ a w' ∧ RAV ι' h' (C.b + n') w' av v ∧ Moves ι h (C.b + n) w ι' h' (C.b + n') w'

/-- a truth value is parted at once where it is moved -/
def splitB (v : AV) (K : AV → Prop) : Prop :=
  match v with
  | .one (.p (.v (.bool g))) => (g = true → K (.one (.p (.v (.bool true))))) ∧ (g = false → K (.one (.p (.v (.bool false)))))
  | v => K v

def optK (x : Option AV) (K : AV → Prop) : Prop :=
  match x with
  | some v => K v
  | none => False

theorem optK_some (v : AV) (K : AV → Prop) : optK (some v) K = K v := rfl
theorem optK_ite (c : Prop) [Decidable c] (v : AV) (K : AV → Prop) : optK (if c then some v else none) K = (c ∧ K v) := by
  split <;> simp_all [optK]

def aop (P : Program) (C : Ctx) (o : Oper) (t : Nat → AV) (h : Heap) (n : Nat) (E : Exit → St → Prop) (K : KT) : Prop :=
  match o.op with
  | .move x => splitB (val t x) fun v => K v h n
  | .binOp op ty x y _ => match binA P ty op (val t x) (val t y) with
    | some v => K v h n
    | none => EqlK P C op ty x y (val t x) (val t y) h n K
  | .box _ x => okA h (val t x) = true ∧ K (.one (.ptr (C.b + n) 0 0)) (upd h (C.b + n) ⟨0, cellsA (val t x)⟩) (n + 1)
  | .alloc ty => match tzero P ty with
    | some zs => K (.one (.ptr (C.b + n) 0 0)) (upd h (C.b + n) ⟨0, zs.map fun v => .p (.v v)⟩) (n + 1)
    | none => False
  | .buildSlice ty len parts => match bslA P h ty len (parts.toList.map fun (i, x) => (i, val t x)) with
    | some cs => K (.one (.win (C.b + n) 0 0 len len)) (upd h (C.b + n) ⟨0, cs⟩) (n + 1)
    | none => False
  | .store ty x v => match stA P ty h (val t x) (val t v) with
    | some h' => K (.one .junk) h' n
    | none => False
  | .makeSlice ty l c => MkK P C ty (val t l) (val t c) h n K
  | .call { callee := .value f, args := xs, argTypes := _ } => match val t f with
    | .one (.clo (.func g) first cap) => CallK P C E t g (first.map .one ++ (xs.toList.map (val t) ++ cap.map .one)) h n K
    | _ => False
  | .panic x => match val t x with
    | .one (.p (.v (.iface T v))) => E (.panic [{ v := .iface T v, recovered := false }]) ⟨t, h, n⟩
    | _ => False
  | .call { callee := .builtin .append, args := xs, argTypes := tys } => BiK P C .append tys.toList (xs.toList.map (val t)) h n K
  | .call { callee := .builtin .copy, args := xs, argTypes := tys } => BiK P C .copy tys.toList (xs.toList.map (val t)) h n K
  | .call { callee := .builtin .clear, args := xs, argTypes := tys } => BiK P C .clear tys.toList (xs.toList.map (val t)) h n K
  | _ => optK (sop P t h o) fun v => K v h n

theorem splitB_ok {v : AV} {K : AV → Prop} (e : splitB v K) : K v := by
  unfold splitB at e
  split at e
  · rename_i g; cases g
    · exact e.2 rfl
    · exact e.1 rfl
  · exact e

theorem optK_ok {x : Option AV} {K : AV → Prop} (e : optK x K) : ∃ v, x = some v ∧ K v := by
  cases x with
  | none => exact e.elim
  | some v => exact ⟨v, rfl, e⟩

theorem bi_ok {P : Program} {C : Ctx} {o : Oper} {t : Nat → AV} {h : Heap} {n : Nat} {E : Exit → St → Prop} {K : KT} {b : Builtin} {xs : Array Operand} {tys : Array TypeId} (ho : o.op = .call ⟨.builtin b, xs, tys⟩)
    (k : BiK P C b tys.toList (xs.toList.map (val t)) h n K) : AOp P C o ⟨t, h, n⟩ E K := by
  intro a w ι I next Q _ hn
  obtain ⟨v, w', av, h', n', ι', h1, h2, h3, h4, h5⟩ := k a w ι _ I.junk (ravs_map (val_ok I) xs.toList) o.type (constsOf xs)
  have hrun : (execOp a.eval o).run P w = .ok (.value v) w' := by
    obtain ⟨dst, op, ty, pos, after, guard⟩ := o
    simp only at ho
    subst ho
    rw [callee_builtin]
    have e2 : (List.map a.eval xs.toList).toArray = Array.map a.eval xs := by apply Array.ext'; simp
    rw [← e2]
    exact h1
  unfold Oper.wp
  rw [hrun, Oper.upon_value]
  exact hn v av h' n' ι' w' h2 (I.unjunk h3 h5) h4

section
variable (ρ : Operand → Value) (dst : Option Tmp) (ty0 : TypeId) (pos : String) (after : Array Edge) (guard : Option (Nat × Bool))
theorem ex_bin (op : BinOp) (ty u : TypeId) (x y : Operand) : execOp ρ ⟨dst, .binOp op ty x y u, ty0, pos, after, guard⟩ = (do pure (.value (← (do eqGuard op ty x y (ρ x) (ρ y); binOp op ty (ρ x) (ρ y) : Sem Value)))) := rfl
theorem ex_box (ty : TypeId) (x : Operand) : execOp ρ ⟨dst, .box ty x, ty0, pos, after, guard⟩ = (do pure (.value (← Instr.box ty (ρ x)))) := rfl
theorem ex_alloc (ty : TypeId) : execOp ρ ⟨dst, .alloc ty, ty0, pos, after, guard⟩ = (do pure (.value (← Instr.alloc ty true (.tuple #[])))) := rfl
theorem ex_bsl (ty : TypeId) (len : Nat) (parts : Array (Nat × Operand)) : execOp ρ ⟨dst, .buildSlice ty len parts, ty0, pos, after, guard⟩ = (do pure (.value (← Instr.buildSlice ty len (parts.map fun (i, x) => (i, ρ x))))) := rfl
theorem ex_mk (ty : TypeId) (l c : Operand) : execOp ρ ⟨dst, .makeSlice ty l c, ty0, pos, after, guard⟩ = (do pure (.value (← Instr.makeSlice ty (ρ l) (ρ c)))) := rfl
end

theorem aop_ok {P : Program} {C : Ctx} {o : Oper} {t : Nat → AV} {h : Heap} {n : Nat} {E : Exit → St → Prop} {K : KT} (e : aop P C o t h n E K) : AOp P C o ⟨t, h, n⟩ E K := by
  obtain ⟨dst, op, ty0, pos, after, guard⟩ := o
  unfold aop at e
  simp only at e
  split at e
  · exact AOp.of_sop (K := K) rfl (splitB_ok (K := fun v => K v h n) e)
  · rename_i op ty x y z
    split at e
    · rename_i v hv
      exact AOp.of_sop (K := K) (av := v) hv e
    · exact AOp.of_gives (K := K) (fun ρ => ex_bin ρ _ _ _ _ _ _ _ _ _ _) (fun a w ι I => let ⟨v, w', av, h', n', ι', h1, h2, h3, h4, h5⟩ := e a w ι _ _ I.junk (val_ok I x) (val_ok I y); ⟨v, w', av, h', n', ι', h1, h2, I.unjunk h3 h5, h4⟩)
  · rename_i ty x
    exact AOp.of_gives (K := K) (fun ρ => ex_box ρ _ _ _ _ _ _ _) (box_ok (K := K) e.1 e.2)
  · rename_i ty
    split at e
    · rename_i zs hz
      exact AOp.of_gives (K := K) (fun ρ => ex_alloc ρ _ _ _ _ _ _) (alloc_ok (K := K) hz e)
    · exact e.elim
  · rename_i ty len parts
    split at e
    · rename_i cs hc
      exact AOp.of_gives (K := K) (fun ρ => ex_bsl ρ _ _ _ _ _ _ _ _) (bsl_ok (K := K) hc e)
    · exact e.elim
  · rename_i ty x v
    split at e
    · rename_i h' hs
      exact st_ok (K := K) rfl hs e
    · exact e.elim
  · rename_i ty l c
    exact AOp.of_gives (K := K) (fun ρ => ex_mk ρ _ _ _ _ _ _ _ _) (fun a w ι I => let ⟨v, w', av, h', n', ι', h1, h2, h3, h4, h5⟩ := e a w ι _ _ I.junk (val_ok I l) (val_ok I c); ⟨v, w', av, h', n', ι', h1, h2, I.unjunk h3 h5, h4⟩)
  · rename_i f xs tys
    split at e
    · rename_i g first cap hf
      exact call_ok (K := K) rfl hf (by rw [List.append_assoc]; exact e)
    · exact e.elim
  · rename_i x
    split at e
    · rename_i T v hx
      intro a w ι I next Q hQ _
      have rx := val_ok I x
      have rx : RAV ι h (C.b + n) w (val t x) (a.eval x) := rx
      rw [hx] at rx
      have hX := rav_v_inv rx
      unfold Oper.wp
      have hrun : (execOp a.eval ⟨dst, .panic x, ty0, pos, after, guard⟩).run P w = .halt (.panic (.iface T v)) w := by
        simp only [execOp, hX]; rfl
      rw [hrun, Oper.upon_panic]
      exact hQ _ _ ι a w e I
    · exact e.elim
  · exact bi_ok (K := K) rfl e
  · exact bi_ok (K := K) rfl e
  · exact bi_ok (K := K) rfl e
  · obtain ⟨v, h1, h2⟩ := optK_ok (K := fun v => K v h n) e
    exact AOp.of_sop (K := K) h1 h2

/-! ### lists of operations -/
def dstsB (N : Nat) (l : List Oper) : Bool := l.all fun o => match o.dst with | some d => decide (d < N) | none => true

/-- what an operation yields that is not carried out -/
def undA : AV := .one (.p (.v (.tuple #[])))

def evOps (P : Program) (C : Ctx) (E : Exit → St → Prop) : List Oper → List (Option Tmp) → (Nat → AV) → Heap → Nat → ((Nat → AV) → Heap → Nat → Prop) → Prop
  | [], _, t, h, n, K => K t h n
  | o :: os, pre, t, h, n, K => match o.guard with
    | none => aop P C o t h n E fun v h' n' => evOps P C E os (pre ++ [o.dst]) (putT t o.dst v) h' n' K
    | some (j, want) => match pre[j]? with
      | some (some d) => match t d with
        | .one (.p (.v (.bool g))) => (g = want → aop P C o t h n E fun v h' n' => evOps P C E os (pre ++ [o.dst]) (putT t o.dst v) h' n' K) ∧
            (g = !want → evOps P C E os (pre ++ [o.dst]) (putT t o.dst undA) h n K)
        | .one (.p (.v (.tuple _))) => evOps P C E os (pre ++ [o.dst]) (putT t o.dst undA) h n K
        | _ => False
      | _ => False

/-- a region's operations, one behind the other -/
def wpL (P : Program) (ops : Array Oper) (Q : Exit → Act → World → Prop) : List Oper → Act → World → Prop
  | [], a, w => Q .normal a w
  | o :: rest, a, w => if Region.wanted o (yielded ops a.tmps) then o.wp P a w (wpL P ops Q rest) Q else wpL P ops Q rest (a.put o.dst undef) w
theorem wpL_nil {P : Program} {ops : Array Oper} {Q : Exit → Act → World → Prop} {a : Act} {w : World} (h : Q .normal a w) : wpL P ops Q [] a w := h
theorem wpL_step {P : Program} {ops : Array Oper} {Q : Exit → Act → World → Prop} {a : Act} {w : World} {rest : List Oper} {o : Oper}
    (h : ∀ K : Act → World → Prop, (∀ a w, wpL P ops Q rest a w → K a w) → if Region.wanted o (yielded ops a.tmps) then o.wp P a w K Q else K (a.put o.dst undef) w) : wpL P ops Q (o :: rest) a w := h _ (fun _ _ h => h)
theorem wpL_plain {P : Program} {ops : Array Oper} {Q : Exit → Act → World → Prop} {a : Act} {w : World} {rest : List Oper} {o : Oper} (hg : o.guard = none)
    (h : ∀ K : Act → World → Prop, (∀ a w, wpL P ops Q rest a w → K a w) → o.wp P a w K Q) : wpL P ops Q (o :: rest) a w :=
  wpL_step fun K hK => by simp only [Region.wanted, hg, if_true]; exact h K hK

theorem evOps_ok {P : Program} {C : Ctx} {E : Exit → St → Prop} {ops : Array Oper} {Q : Exit → Act → World → Prop} (hQ : ∀ e s' ι' a' w', E e s' → Inv C ι' s' a' w' → Q e a' w')
    (hN : dstsB C.N ops.toList = true) (K : (Nat → AV) → Heap → Nat → Prop) (hK : ∀ t h n ι a w, K t h n → Inv C ι ⟨t, h, n⟩ a w → Q .normal a w) :
    ∀ (l : List Oper) (pre : List (Option Tmp)) (t : Nat → AV) (h : Heap) (n : Nat), l = ops.toList.drop pre.length → pre = (ops.toList.take pre.length).map (·.dst) → evOps P C E l pre t h n K →
      ∀ a w ι, Inv C ι ⟨t, h, n⟩ a w → wpL P ops Q l a w := by
  intro l
  induction l with
  | nil =>
    intro pre t h n _ _ e a w ι I
    exact wpL_nil (hK t h n ι a w e I)
  | cons o os ih =>
    intro pre t h n hl hpre e a w ι I
    have hk : ops.toList[pre.length]? = some o := by
      have : (ops.toList.drop pre.length)[0]? = some o := by rw [← hl]; rfl
      simpa using this
    have hmem : o ∈ ops.toList := List.mem_of_getElem? hk
    have hd : dstOK C.N o.dst := by
      have := List.all_eq_true.1 hN o hmem
      unfold dstOK
      cases hdd : o.dst with
      | none => trivial
      | some d => rw [hdd] at this; simpa using this
    have hl' : os = ops.toList.drop (pre ++ [o.dst]).length := by
      have : (ops.toList.drop pre.length).drop 1 = os := by rw [← hl]; rfl
      rw [← this]; simp
    have hpre' : pre ++ [o.dst] = (ops.toList.take (pre ++ [o.dst]).length).map (·.dst) := by
      have hlt : pre.length < ops.toList.length := (List.getElem?_eq_some_iff.1 hk).1
      have h1 : ops.toList.take (pre.length + 1) = ops.toList.take pre.length ++ [o] := by
        rw [List.take_add_one, hk]; rfl
      rw [List.length_append, List.length_singleton, h1, List.map_append, ← hpre]
      rfl
    have go : aop P C o t h n E (fun v h' n' => evOps P C E os (pre ++ [o.dst]) (putT t o.dst v) h' n' K) → ∀ K' : Act → World → Prop, (∀ a w, wpL P ops Q os a w → K' a w) → o.wp P a w K' Q := by
      intro e' K' hK'
      refine aop_ok e' a w ι I K' Q hQ (fun v av h' n' ι' w' hk' I' hv => hK' _ _ ?_)
      exact ih (pre ++ [o.dst]) _ h' n' hl' hpre' hk' _ _ ι' (I'.put hd hv)
    unfold evOps at e
    split at e
    · rename_i hg
      exact wpL_plain hg (go e)
    · rename_i j want hg
      split at e
      · rename_i d hj
        split at e
        · rename_i g ht
          have hjl : j < pre.length := (List.getElem?_eq_some_iff.1 hj).1
          have hops : (ops[j]?).bind (·.dst) = some d := by
            rw [hpre] at hj
            simp only [List.getElem?_map, List.getElem?_take] at hj
            rw [if_pos hjl] at hj
            have h2 : ops.toList[j]? = ops[j]? := by simp
            rw [h2] at hj
            cases hh : ops[j]? with
            | none => rw [hh] at hj; simp at hj
            | some oj => rw [hh] at hj; simpa using hj
          have hd2 : d < C.N := by
            cases hh : ops[j]? with
            | none => rw [hh] at hops; simp at hops
            | some oj =>
              rw [hh] at hops
              have hm : oj ∈ ops.toList := List.mem_of_getElem? (i := j) (by simpa using hh)
              have := List.all_eq_true.1 hN oj hm
              simp only [Option.bind_some] at hops
              rw [hops] at this
              simpa using this
          have hy : yielded ops a.tmps j = some g := by
            have hr := I.tmps d
            simp only [ht] at hr
            have hv := rav_v_inv hr
            have hlt : d < a.tmps.size := by rw [I.ntmps]; exact hd2
            have : a.tmps[d]? = some (.bool g) := by
              have h2 : a.tmps.getD d undef = a.tmps[d] := by simp [Array.getD, hlt]
              rw [Array.getElem?_eq_getElem hlt, ← h2]
              exact congrArg some hv
            unfold yielded
            rw [hops]
            simp only [Option.bind_some, this]
          refine wpL_step (fun K' hK' => ?_)
          have hw : Region.wanted o (yielded ops a.tmps) = (g == want) := by
            unfold Region.wanted
            rw [hg]
            show (yielded ops a.tmps j == some want) = (g == want)
            rw [hy]
            cases g <;> cases want <;> rfl
          rw [hw]
          by_cases hgw : g = want
          · rw [if_pos (by simpa using hgw)]
            exact go (e.1 hgw) K' hK'
          · rw [if_neg (by simpa using hgw)]
            refine hK' _ _ (ih (pre ++ [o.dst]) _ h n hl' hpre' (e.2 (by cases g <;> cases want <;> first | rfl | exact absurd rfl hgw)) _ _ ι (Inv.put I hd (rav_v undef)))
        · rename_i xs ht
          have hjl : j < pre.length := (List.getElem?_eq_some_iff.1 hj).1
          have hops : (ops[j]?).bind (·.dst) = some d := by
            rw [hpre] at hj
            simp only [List.getElem?_map, List.getElem?_take] at hj
            rw [if_pos hjl] at hj
            have h2 : ops.toList[j]? = ops[j]? := by simp
            rw [h2] at hj
            cases hh : ops[j]? with
            | none => rw [hh] at hj; simp at hj
            | some oj => rw [hh] at hj; simpa using hj
          have hd2 : d < C.N := by
            cases hh : ops[j]? with
            | none => rw [hh] at hops; simp at hops
            | some oj =>
              rw [hh] at hops
              have hm : oj ∈ ops.toList := List.mem_of_getElem? (i := j) (by simpa using hh)
              have := List.all_eq_true.1 hN oj hm
              simp only [Option.bind_some] at hops
              rw [hops] at this
              simpa using this
          have hy : yielded ops a.tmps j = none := by
            have hr := I.tmps d
            simp only [ht] at hr
            have hv := rav_v_inv hr
            have hlt : d < a.tmps.size := by rw [I.ntmps]; exact hd2
            have : a.tmps[d]? = some (.tuple xs) := by
              have h2 : a.tmps.getD d undef = a.tmps[d] := by simp [Array.getD, hlt]
              rw [Array.getElem?_eq_getElem hlt, ← h2]
              exact congrArg some hv
            unfold yielded
            rw [hops]
            simp only [Option.bind_some, this]
          refine wpL_step (fun K' hK' => ?_)
          have hw : Region.wanted o (yielded ops a.tmps) = false := by
            unfold Region.wanted
            rw [hg]
            show (yielded ops a.tmps j == some want) = false
            rw [hy]
            rfl
          rw [hw, if_neg (by simp)]
          exact hK' _ _ (ih (pre ++ [o.dst]) _ h n hl' hpre' e _ _ ι (Inv.put I hd (rav_v undef)))
        · exact e.elim
      · exact e.elim

def regOps : Code → Array Oper
  | .region _ ops _ => ops
  | _ => #[]

def plainB (l : List Oper) : Bool := l.all fun o => match o.op with | .defer _ => false | _ => true
def regB (N : Nat) (l : List Oper) : Bool := dstsB N l && plainB l

theorem Oper.wp_in {P : Program} {C : Ctx} {o : Oper} {a : Act} {w : World} {next next' : Act → World → Prop} {Q : Exit → Act → World → Prop} (hp : ∀ c, o.op ≠ .defer c) (hn : ∀ a w, next a w → next' a w) (h : o.wp P a w next Q) : o.wpIn C.F 0 P a w next' Q := by
  refine ⟨fun f _ => C.F_fn f, ?_⟩
  rw [Oper.semAt_eq _ _ _ hp]
  unfold Oper.wp at h
  revert h
  cases hr : (execOp a.eval o).run P w with
  | ok x w' =>
    intro h
    cases x with
    | value v => exact hn _ _ h
    | skip => exact hn _ _ h
    | defer d => exact hn _ _ h
    | enter f args =>
      refine ⟨fun hh => (by cases hh), ?_⟩
      have h1 : CallsIn Fence.wide 0 P f args w' _ := callsIn_wide.2 h
      have h2 : CallsIn C.F 0 P f args w' _ := h1
      exact h2.mono fun e w'' q => by cases e <;> first | exact hn _ _ q | exact q
    | row r args =>
      refine ⟨fun hh => (by cases hh), fun c cs _ => ?_⟩
      obtain ⟨v, w'', q, st⟩ := h c cs
      exact ⟨v, w'', hn _ _ q, (StepsIn.of_steps st).mono fun m _ => fenced_wide P m⟩
    | _ => exact h.elim
  | halt x w' =>
    intro h
    cases x <;> first | exact h | exact h.elim

theorem wpL_in {P : Program} {C : Ctx} {ops : Array Oper} {Q : Exit → Act → World → Prop} : ∀ (l : List Oper) (a : Act) (w : World), plainB l = true → wpL P ops Q l a w → wpListIn C.F 0 P ops Q l a w
  | [], _, _, _, h => h
  | o :: os, a, w, hp, h => by
    simp only [plainB, List.all_cons, Bool.and_eq_true] at hp
    unfold wpL at h
    unfold wpListIn
    split
    · rename_i hw
      rw [if_pos hw] at h
      exact Oper.wp_in (fun c e => by rw [e] at hp; exact absurd (show false = true from hp.1) (by decide)) (fun a w => wpL_in os a w hp.2) h
    · rename_i hw
      rw [if_neg hw] at h
      exact ⟨fun f _ => C.F_fn f, wpL_in os _ w hp.2 h⟩

theorem AWP.region {P : Program} {C : Ctx} {Q : Exit → St → Prop} {s : St} {id : Nat} {ops : Array Oper} (hN : regB C.N ops.toList = true)
    (e : evOps P C Q ops.toList [] s.t s.h s.n (fun t h n => Q .normal ⟨t, h, n⟩)) : AWP P C (.region id ops false) Q s := by
  simp only [regB, Bool.and_eq_true] at hN
  intro a w ι I
  exact wpIn_region_list (wpL_in _ _ _ hN.2 (evOps_ok (Q := PostQ C Q) (fun _ s' ι' _ _ he I' => .inl ⟨s', ι', he, I'⟩) hN.1 _ (fun _ _ _ ι' _ _ hk I' => .inl ⟨_, ι', hk, I'⟩)
    ops.toList [] s.t s.h s.n rfl rfl e a w ι I))

/-! ### how a body ends -/
/-- what becomes of what is returned: own rows are read only, from now on -/
def frzC (h : Heap) (b : Nat) (c d : Cell) : Prop :=
  (c = d ∧ lowC b c = true) ∨ (∃ sz, c = .p (.v (.slice none 0 0)) ∧ d = .p (.sl sz [])) ∨
  (∃ id ver off len cap sz es blk, c = .win id ver off len cap ∧ d = .p (.sl sz es) ∧ b ≤ id ∧ h id = some blk ∧ blk.ver = ver ∧ es.length = len ∧
    (∀ e ∈ es, e.length = sz) ∧ (∀ (i : Nat) (e : List PD), es[i]? = some e → ∀ (j : Nat) (x : PD), e[j]? = some x → blk.cells[off + (i * sz + j)]? = some (.p x)))

inductive frzV (h : Heap) (b : Nat) : AV → AV → Prop
  | one {c d : Cell} (hc : frzC h b c d) : frzV h b (.one c) (.one d)
  | agg {cs ds : List Cell} (hl : ds.length = cs.length) (hc : ∀ (i : Nat) (c d : Cell), cs[i]? = some c → ds[i]? = some d → frzC h b c d) : frzV h b (.agg cs) (.agg ds)
  | tup {cs ds : List AV} (hl : ds.length = cs.length) (hc : ∀ (i : Nat) (c d : AV), cs[i]? = some c → ds[i]? = some d → frzV h b c d) : frzV h b (.tup cs) (.tup ds)

/-- the heap below b -/
def lowH (b : Nat) (h : Heap) : Heap := fun i => if i < b then h i else none

theorem lowH_some {b : Nat} {h : Heap} {i : Nat} {blk : Blk} (e : lowH b h i = some blk) : i < b ∧ h i = some blk := by
  unfold lowH at e
  split at e
  · exact ⟨by assumption, e⟩
  · cases e

theorem RCell.low {ι : Nat → Nat} {h : Heap} {bd : Nat} {w : World} {b : Nat} {c : Cell} {v : Value} (r : RCell ι h bd w c v) (hl : lowC b c = true) : RCell ι (lowH b h) b w c v := by
  have hst : ∀ x, stab ι h x → stab ι (lowH b h) x := fun x s id blk e ne => s id blk (lowH_some e).2 ne
  induction r with
  | p hd => exact .p (hd.mono (fun x s _ => hst x s) (fun _ _ _ => rfl))
  | junk v => exact .junk v
  | @ptr id ver off v hid hver hv =>
    simp only [lowC, decide_eq_true_eq] at hl
    exact .ptr hl (fun blk e => hver blk (lowH_some e).2) (fun blk e => hv blk (lowH_some e).2)
  | @ro cs A U hs hc =>
    refine .ro A U hs (fun j d hd => ?_)
    obtain ⟨h1, h2, h3⟩ := hc j d hd
    exact ⟨hst _ h1, h2, h3.mono (fun x s _ => hst x s) (fun _ _ _ => rfl)⟩
  | @win id ver off len cap v hid hver hv =>
    simp only [lowC, decide_eq_true_eq] at hl
    exact .win hl (fun blk e => hver blk (lowH_some e).2) (fun blk e => hv blk (lowH_some e).2)
  | clo F C' hF hC h1 h2 ih1 ih2 =>
    simp only [lowC, Bool.and_eq_true] at hl
    exact .clo F C' hF hC (fun i c u hc hu => ih1 i c u hc hu (lowCs_mem hl.1 c (List.mem_of_getElem? hc))) (fun i c u hc hu => ih2 i c u hc hu (lowCs_mem hl.2 c (List.mem_of_getElem? hc)))

theorem frzC_ok {ι : Nat → Nat} {h : Heap} {bd : Nat} {w : World} {b : Nat} {c d : Cell} {v : Value} (H : HeapOK ι h bd w) (r : RCell ι h bd w c v) (f : frzC h b c d) : RCell ι (lowH b h) b w d v := by
  rcases f with ⟨rfl, hl⟩ | ⟨sz, rfl, rfl⟩ | ⟨id, ver, off, len, cap, sz, es, blk, rfl, rfl, hb, hblk, hver, hlen, hsz, hcells⟩
  · exact r.low hl
  · cases r with
    | p hd => cases hd with
      | v =>
        have := RPD.sl (S := stab ι (lowH b h)) (w := w) (sz := sz) (es := []) none 0 (fun _ _ => undef) (Nat.le_refl _) (fun _ => rfl) (fun _ e => by cases e) (fun _ e => by cases e) (fun _ _ e => by simp at e) (fun _ _ e => by simp at e)
        exact .p this
  · cases r with
    | win hid hver' hv =>
      obtain ⟨hlc, hX⟩ := hv blk hblk hver
      have hst : ∀ x, stab ι h x → stab ι (lowH b h) x := fun x s id blk e ne => s id blk (lowH_some e).2 ne
      rcases hX with rfl | ⟨rfl, rfl, rfl⟩
      · by_cases hne : blk.cells = []
        · have := RPD.sl (S := stab ι (lowH b h)) (w := w) (sz := sz) (es := es) (some ⟨ι id, off, none⟩) cap (fun _ _ => undef) (by omega) (fun hn => by cases hn) (fun A hA => by injection hA with hA; subst hA; exact .inr rfl) hsz
            (fun i e he j x hx => by have := hcells i e he j x hx; rw [hne] at this; simp at this) (fun i e he j x hx => by have := hcells i e he j x hx; rw [hne] at this; simp at this)
          rw [hlen] at this
          exact .p this
        · obtain ⟨c, ty, g1, g2, g3⟩ := H.blk id blk hblk hne
          have hself : stab ι (lowH b h) (ι id) := by
            intro id' blk' e ne heq
            obtain ⟨hlt, e'⟩ := lowH_some e
            have := H.inj id' id blk' blk e' hblk ne hne heq
            omega
          have := RPD.sl (S := stab ι (lowH b h)) (w := w) (sz := sz) (es := es) (some ⟨ι id, off, none⟩) cap (fun i j => c.getD (off + (i * sz + j)) undef) (by omega) (fun hn => by cases hn) (fun A hA => by injection hA with hA; subst hA; exact .inr rfl) hsz
            (fun i e he j x hx => by
              have hx' := hcells i e he j x hx
              have hlt : off + (i * sz + j) < c.size := by rw [g2]; exact (List.getElem?_eq_some_iff.1 hx').1
              refine ⟨_, rfl, hself, ?_⟩
              simp [World.cell?, g1, Array.getD, hlt])
            (fun i e he j x hx => by
              have hx' := hcells i e he j x hx
              have hlt : off + (i * sz + j) < c.size := by rw [g2]; exact (List.getElem?_eq_some_iff.1 hx').1
              have hr := g3 _ _ _ hx' (Array.getElem?_eq_getElem hlt)
              cases hr with
              | p hd =>
                have e1 : c.getD (off + (i * sz + j)) undef = c[off + (i * sz + j)] := by simp [Array.getD, hlt]
                rw [e1]
                exact hd.mono (fun x s _ => hst x s) (fun _ _ _ => rfl))
          rw [hlen] at this
          exact .p this
      · have hes : es = [] := List.eq_nil_of_length_eq_zero hlen
        subst hes
        have := RPD.sl (S := stab ι (lowH b h)) (w := w) (sz := sz) (es := []) none 0 (fun _ _ => undef) (Nat.le_refl _) (fun _ => rfl) (fun _ e => by cases e) (fun _ e => by cases e) (fun _ _ e => by simp at e) (fun _ _ e => by simp at e)
        exact .p this

theorem frzV_ok {ι : Nat → Nat} {h : Heap} {bd : Nat} {w : World} {b : Nat} {c d : AV} {v : Value} (H : HeapOK ι h bd w) (f : frzV h b c d) (r : RAV ι h bd w c v) : RAV ι (lowH b h) b w d v := by
  induction f generalizing v with
  | one hc => cases r with | one hr => exact .one (frzC_ok H hr hc)
  | @agg cs ds hl hc =>
    cases r with
    | agg V hV hv =>
      refine .agg V (hV.trans hl.symm) (fun i d u hd hu => ?_)
      have hlt : i < cs.length := by rw [← hl]; exact (List.getElem?_eq_some_iff.1 hd).1
      exact frzC_ok H (hv i _ u (List.getElem?_eq_getElem hlt) hu) (hc i _ d (List.getElem?_eq_getElem hlt) hd)
  | @tup cs ds hl hc ih =>
    cases r with
    | tup V hV hv =>
      refine .tup V (hV.trans hl.symm) (fun i d u hd hu => ?_)
      have hlt : i < cs.length := by rw [← hl]; exact (List.getElem?_eq_some_iff.1 hd).1
      exact ih i _ d (List.getElem?_eq_getElem hlt) hd (hv i _ u (List.getElem?_eq_getElem hlt) hu)

theorem HeapOK.low {ι : Nat → Nat} {h : Heap} {bd : Nat} {w : World} {b : Nat} (H : HeapOK ι h bd w) (hl : ∀ id, id < b → ∀ blk, h id = some blk → ∀ c ∈ blk.cells, lowC b c = true) : HeapOK ι (lowH b h) b w := by
  refine ⟨fun id blk e ne => ?_, fun i j bi bj hi hj => H.inj i j bi bj (lowH_some hi).2 (lowH_some hj).2⟩
  obtain ⟨hlt, e'⟩ := lowH_some e
  obtain ⟨c, ty, h1, h2, h3⟩ := H.blk id blk e' ne
  exact ⟨c, ty, h1, h2, fun j d u hd hu => (h3 j d u hd hu).low (hl id hlt blk e' d (List.mem_of_getElem? hd))⟩

theorem RCell.lowOf {ι : Nat → Nat} {h : Heap} {bd : Nat} {w : World} {c : Cell} {v : Value} (r : RCell ι h bd w c v) : lowC bd c = true := by
  induction r with
  | p | junk | ro => rfl
  | ptr hid | win hid => simp only [lowC, decide_eq_true_eq]; exact hid
  | clo F C hF hC h1 h2 ih1 ih2 =>
    simp only [lowC, Bool.and_eq_true]
    refine ⟨lowCs_of fun c hc => ?_, lowCs_of fun c hc => ?_⟩
    · obtain ⟨i, hi⟩ := List.mem_iff_getElem?.1 hc
      have hlt : i < F.length := by rw [hF]; exact (List.getElem?_eq_some_iff.1 hi).1
      exact ih1 i c _ hi (List.getElem?_eq_getElem hlt)
    · obtain ⟨i, hi⟩ := List.mem_iff_getElem?.1 hc
      have hlt : i < C.length := by rw [hC]; exact (List.getElem?_eq_some_iff.1 hi).1
      exact ih2 i c _ hi (List.getElem?_eq_getElem hlt)

/-- the outer heap as it was: its cells are low -/
theorem HeapOK.lowCells {ι : Nat → Nat} {h : Heap} {b : Nat} {w : World} (H : HeapOK ι h b w) : ∀ id blk, h id = some blk → ∀ c ∈ blk.cells, lowC b c = true := by
  intro id blk e c hc
  have ne : blk.cells ≠ [] := by intro hh; rw [hh] at hc; cases hc
  obtain ⟨V, ty, h1, h2, h3⟩ := H.blk id blk e ne
  obtain ⟨i, hi⟩ := List.mem_iff_getElem?.1 hc
  have hlt : i < V.size := by rw [h2]; exact (List.getElem?_eq_some_iff.1 hi).1
  exact (h3 i c _ hi (Array.getElem?_eq_getElem hlt)).lowOf

def resV (P : Program) (h : Heap) (t : Nat → AV) : ResultVar → Option AV
  | .tmp i => some (t i)
  | .cell a ty => ldA P ty h (t a)

def resL (P : Program) (h : Heap) (t : Nat → AV) : List ResultVar → Option (List AV)
  | [] => some []
  | r :: rs => match resV P h t r with
    | some v => match resL P h t rs with
      | some vs => some (v :: vs)
      | none => none
    | none => none

def resA (P : Program) (h : Heap) (t : Nat → AV) (rs : List ResultVar) : Option AV :=
  match resL P h t rs with
  | some [v] => some v
  | some vs => some (.tup vs)
  | none => none

theorem ld_addr {P : Program} {ι : Nat → Nat} {h : Heap} {bd : Nat} {w : World} (H : HeapOK ι h bd w) {t : TypeId} {x av : AV} {X : Value} (r : RAV ι h bd w x X) (e : ldA P t h x = some av) :
    ∃ v, (do loadVar t (← asAddr X) : Sem Value).run P w = .ok v w ∧ RAV ι h bd w av v := by
  obtain ⟨v, h1, h2⟩ := ld_ok (P := P) H r e
  refine ⟨v, ?_, h2⟩
  have : ∃ A, X = .pointer (some A) := by
    unfold ldA at e
    split at e
    · rename_i id ver off
      split at e
      · rename_i b hb
        split at e
        · rename_i hv; exact ⟨_, ptr_inv r hb hv⟩
        · cases e
      · cases e
    · obtain ⟨A, U, hX, _⟩ := ro_inv r; exact ⟨A, hX⟩
    · cases e
  obtain ⟨A, rfl⟩ := this
  simpa [Instr.loadAt, Instr.sureAddr, asAddr] using h1

def resFn (tmps : Array Value) : ResultVar → Sem Value
  | .tmp t => pure (tmps.getD t undef)
  | .cell x t => do loadVar t (← asAddr (tmps.getD x undef))

theorem results_eq (fn : Func) (tmps : Array Value) : results fn tmps = (do let vs ← fn.results.mapM (resFn tmps); pure (if h : vs.size = 1 then vs[0] else .tuple vs)) := by
  have e : resFn tmps = (fun r => match r with | .tmp t => pure (tmps.getD t undef) | .cell x t => do loadVar t (← asAddr (tmps.getD x undef))) := by
    funext r
    cases r <;> rfl
  rw [e]
  rfl

theorem resL_ok {P : Program} {C : Ctx} {ι : Nat → Nat} {s : St} {a : Act} {w : World} (I : Inv C ι s a w) : ∀ (rs : List ResultVar) (vs : List AV), resL P s.h s.t rs = some vs →
    ∃ V : List Value, (rs.mapM (resFn a.tmps)).run P w = .ok V w ∧ RAVs ι s.h (C.b + s.n) w vs V
  | [], vs, e => by injection e with e; subst e; exact ⟨[], rfl, rfl, fun _ _ _ hh => by simp at hh⟩
  | r :: rs, vs, e => by
    unfold resL at e
    split at e
    · rename_i v hv
      split at e
      · rename_i vs' hvs
        injection e with e
        subst e
        obtain ⟨V, h1, h2⟩ := resL_ok I rs vs' hvs
        have hone : ∃ u, (resFn a.tmps r).run P w = .ok u w ∧ RAV ι s.h (C.b + s.n) w v u := by
          cases r with
          | tmp i => injection hv with hv; subst hv; exact ⟨_, rfl, I.tmps i⟩
          | cell x ty => exact ld_addr I.heap (I.tmps x) hv
        obtain ⟨u, g1, g2⟩ := hone
        refine ⟨u :: V, ?_, ⟨by simp [h2.1], fun i c u' hc hu => ?_⟩⟩
        · rw [List.mapM_cons]
          simp only [Sem.run_bind, g1, Result.andThen, h1, Sem.run_pure]
        · cases i with
          | zero => simp at hc hu; subst hc; subst hu; exact g2
          | succ i => exact h2.2 i c u' (by simpa using hc) (by simpa using hu)
      · cases e
    · cases e

theorem res_ok {P : Program} {C : Ctx} {ι : Nat → Nat} {s : St} {a : Act} {w : World} (I : Inv C ι s a w) {fn : Func} {av : AV} (e : resA P s.h s.t fn.results.toList = some av) :
    ∃ v, (results fn a.tmps).run P w = .ok v w ∧ RAV ι s.h (C.b + s.n) w av v := by
  unfold resA at e
  have main : ∀ vs, resL P s.h s.t fn.results.toList = some vs → ∃ V : List Value, (results fn a.tmps).run P w = .ok (if h : V.toArray.size = 1 then V.toArray[0] else .tuple V.toArray) w ∧ RAVs ι s.h (C.b + s.n) w vs V := by
    intro vs hvs
    obtain ⟨V, h1, h2⟩ := resL_ok I _ vs hvs
    refine ⟨V, ?_, h2⟩
    rw [results_eq, Array.mapM_eq_mapM_toList]
    simp only [Sem.run_bind, Sem.run_map, Result.andThen]
    rw [h1]
    rfl
  split at e
  · rename_i v hv
    injection e with e
    subst e
    obtain ⟨V, h1, h2⟩ := main _ hv
    obtain ⟨hl, hr⟩ := h2
    match V, hl with
    | [u], _ => exact ⟨u, h1, hr 0 _ u rfl rfl⟩
  · rename_i vs hne hv
    injection e with e
    subst e
    obtain ⟨V, h1, h2⟩ := main _ hv
    refine ⟨.tuple V.toArray, ?_, .tup V h2.1 h2.2⟩
    rw [h1]
    have : ¬ V.toArray.size = 1 := by
      intro h
      have hl := h2.1
      have : vs.length = 1 := by rw [← hl]; simpa using h
      match vs, this with
      | [x], _ => exact hne x rfl
    rw [dif_neg this]
  · cases e

/-- a body ends: what is returned, and the outer blocks, are low -/
theorem Ends.low {P : Program} {C : Ctx} {fn : Func} {R : AV → Heap → Prop} {s : St} {r0 r : AV} (hr : resA P s.h s.t fn.results.toList = some r0) (hf : frzV s.h C.b r0 r)
    (hl : ∀ id, id < C.b → ∀ blk, s.h id = some blk → ∀ c ∈ blk.cells, lowC C.b c = true) (hR : R r (lowH C.b s.h)) : Ends P C fn 0 R s := by
  intro a w ι I
  obtain ⟨v, h1, h2⟩ := res_ok (P := P) I hr
  refine ⟨v, r, lowH C.b s.h, ι, h1, hR, ⟨fun id hid b' e => I.outer id hid b' (lowH_some e).2, fun id hid b' e => ?_, fun id hid => ?_, I.heap.low hl, I.keeps⟩, frzV_ok I.heap hf h2⟩
  · have := (lowH_some e).1; omega
  · unfold lowH; rw [if_neg (by omega)]

theorem lowH_eq {b : Nat} {h h0 : Heap} (e : ∀ id, id < b → h id = h0 id) (n : ∀ id, b ≤ id → h0 id = none) : lowH b h = h0 := by
  funext id
  unfold lowH
  split
  · exact e id (by assumption)
  · rw [n id (by omega)]

theorem Ends.pure {P : Program} {C : Ctx} {fn : Func} {R : AV → Heap → Prop} {s : St} {r0 r : AV} (hn : ∀ id, C.b ≤ id → C.h id = none) (H : HeapOK C.ι C.h C.b C.w) (he : ∀ id, id < C.b → s.h id = C.h id)
    (hr : resA P s.h s.t fn.results.toList = some r0) (hf : frzV s.h C.b r0 r) (hR : R r C.h) : Ends P C fn 0 R s :=
  .low hr hf (fun id hid blk e => H.lowCells id blk (by rw [← he id hid]; exact e)) (by rw [lowH_eq he hn]; exact hR)

theorem lowEq_upd {b : Nat} {h h0 : Heap} {j : Nat} {x : Blk} (hj : b ≤ j) (e : ∀ id, id < b → h id = h0 id) : ∀ id, id < b → upd h j x id = h0 id :=
  fun id hid => by rw [upd_ne _ _ _ _ (by omega)]; exact e id hid

theorem frzV.v {h : Heap} {b : Nat} (x : Value) : frzV h b (.one (.p (.v x))) (.one (.p (.v x))) := .one (.inl ⟨rfl, rfl⟩)
theorem frzV.p {h : Heap} {b : Nat} (d : PD) : frzV h b (.one (.p d)) (.one (.p d)) := .one (.inl ⟨rfl, rfl⟩)

end Go.Proofs.YtengjcdilnikhaaDoor.Am

namespace Go.Proofs.YtengjcdilnikhaaDoor.Am
set_option linter.unusedSimpArgs false
set_option linter.unusedVariables false
set_option linter.unnecessarySimpa false
open Go

theorem updT_lit (t : Nat → AV) (d i : Nat) (v : AV) : updT t d v i = if i = d then v else t i := rfl
theorem putT_some (t : Nat → AV) (d : Nat) (v : AV) : putT t (some d) v = updT t d v := rfl
theorem putT_none (t : Nat → AV) (v : AV) : putT t none v = t := rfl
theorem upd_lit (h : Heap) (d i : Nat) (v : Blk) : upd h d v i = if i = d then some v else h i := rfl
theorem argsT_zero (x : AV) (xs : List AV) : argsT (x :: xs) 0 = x := rfl
theorem argsT_succ (x : AV) (xs : List AV) (n : Nat) : argsT (x :: xs) (n + 1) = argsT xs n := rfl
theorem argsT_nil (n : Nat) : argsT [] n = .one .junk := rfl

/-! ### one step, its way on in first-order words (nothing stands under a binder) -/
section
variable (P : Program) (C : Ctx) (E : Exit → St → Prop)
abbrev FinT := (Nat → AV) → Heap → Nat → Prop
abbrev bare (op : Op) : Oper := ⟨none, op, 0, "", #[], none⟩

/-- on with a value -/
def kV (x : Option AV) (dst : Option Tmp) (os : List Oper) (pre : List (Option Tmp)) (t : Nat → AV) (h : Heap) (n : Nat) (K : FinT) : Prop :=
  optK x fun v => evOps P C E os (pre ++ [dst]) (putT t dst v) h n K
/-- a truth value is parted -/
def kS (x : AV) (dst : Option Tmp) (os : List Oper) (pre : List (Option Tmp)) (t : Nat → AV) (h : Heap) (n : Nat) (K : FinT) : Prop :=
  splitB x fun v => evOps P C E os (pre ++ [dst]) (putT t dst v) h n K
/-- an equality -/
def kE (x : Option AV) (op : BinOp) (ty : TypeId) (ox oy : Operand) (a b : AV) (dst : Option Tmp) (os : List Oper) (pre : List (Option Tmp)) (t : Nat → AV) (h : Heap) (n : Nat) (K : FinT) : Prop :=
  match x with
  | some v => evOps P C E os (pre ++ [dst]) (putT t dst v) h n K
  | none => EqlK P C op ty ox oy a b h n fun v h' n' => evOps P C E os (pre ++ [dst]) (putT t dst v) h' n' K
def EqlR (op : BinOp) (ty : TypeId) (ox oy : Operand) (a b : AV) (dst : Option Tmp) (os : List Oper) (pre : List (Option Tmp)) (t : Nat → AV) (h : Heap) (n : Nat) (K : FinT) : Prop :=
  EqlK P C op ty ox oy a b h n fun v h' n' => evOps P C E os (pre ++ [dst]) (putT t dst v) h' n' K
/-- a new block -/
def kL (x : Option (List Cell)) (v : AV) (dst : Option Tmp) (os : List Oper) (pre : List (Option Tmp)) (t : Nat → AV) (h : Heap) (n : Nat) (K : FinT) : Prop :=
  match x with
  | some cs => evOps P C E os (pre ++ [dst]) (putT t dst v) (upd h (C.b + n) ⟨0, cs⟩) (n + 1) K
  | none => False
/-- on with a heap -/
def kH (x : Option Heap) (dst : Option Tmp) (os : List Oper) (pre : List (Option Tmp)) (t : Nat → AV) (n : Nat) (K : FinT) : Prop :=
  match x with
  | some h => evOps P C E os (pre ++ [dst]) (putT t dst (.one .junk)) h n K
  | none => False
def CallR (g : FuncId) (args : List AV) (dst : Option Tmp) (os : List Oper) (pre : List (Option Tmp)) (t : Nat → AV) (h : Heap) (n : Nat) (K : FinT) : Prop :=
  CallK P C E t g args h n fun v h' n' => evOps P C E os (pre ++ [dst]) (putT t dst v) h' n' K
/-- a panic -/
def kPn (x : AV) (t : Nat → AV) (h : Heap) (n : Nat) : Prop :=
  match x with
  | .one (.p (.v (.iface T v))) => E (.panic [{ v := .iface T v, recovered := false }]) ⟨t, h, n⟩
  | _ => False
def kC (f : AV) (args : List AV) (dst : Option Tmp) (os : List Oper) (pre : List (Option Tmp)) (t : Nat → AV) (h : Heap) (n : Nat) (K : FinT) : Prop :=
  match f with
  | .one (.clo (.func g) first cap) => CallR P C E g (first.map .one ++ (args ++ cap.map .one)) dst os pre t h n K
  | _ => False
def BiR (b : Builtin) (tys : List TypeId) (args : List AV) (dst : Option Tmp) (os : List Oper) (pre : List (Option Tmp)) (t : Nat → AV) (h : Heap) (n : Nat) (K : FinT) : Prop :=
  BiK P C b tys args h n fun v h' n' => evOps P C E os (pre ++ [dst]) (putT t dst v) h' n' K
def MkR (ty : TypeId) (x y : AV) (dst : Option Tmp) (os : List Oper) (pre : List (Option Tmp)) (t : Nat → AV) (h : Heap) (n : Nat) (K : FinT) : Prop :=
  MkK P C ty x y h n fun v h' n' => evOps P C E os (pre ++ [dst]) (putT t dst v) h' n' K
def step (op : Op) (dst : Option Tmp) (os : List Oper) (pre : List (Option Tmp)) (t : Nat → AV) (h : Heap) (n : Nat) (K : FinT) : Prop :=
  aop P C (bare op) t h n E fun v h' n' => evOps P C E os (pre ++ [dst]) (putT t dst v) h' n' K
/-- a guarded operation, its guard's value at hand -/
def kG (x : AV) (want : Bool) (op : Op) (dst : Option Tmp) (os : List Oper) (pre : List (Option Tmp)) (t : Nat → AV) (h : Heap) (n : Nat) (K : FinT) : Prop :=
  match x with
  | .one (.p (.v (.bool g))) => (g = want → step P C E op dst os pre t h n K) ∧ (g = !want → evOps P C E os (pre ++ [dst]) (putT t dst undA) h n K)
  | .one (.p (.v (.tuple _))) => evOps P C E os (pre ++ [dst]) (putT t dst undA) h n K
  | _ => False
def kGd (g : Option (Option Tmp)) (want : Bool) (op : Op) (dst : Option Tmp) (os : List Oper) (pre : List (Option Tmp)) (t : Nat → AV) (h : Heap) (n : Nat) (K : FinT) : Prop :=
  match g with
  | some (some d) => kG P C E (t d) want op dst os pre t h n K
  | _ => False

variable (dst : Option Tmp) (ty : TypeId) (pos : String) (after : Array Edge) (os : List Oper) (pre : List (Option Tmp)) (t : Nat → AV) (h : Heap) (n : Nat) (K : FinT)

theorem evOps_nil : evOps P C E [] pre t h n K = K t h n := rfl
theorem aop_bare (op : Op) (g : Option (Nat × Bool)) (K : KT) : aop P C ⟨dst, op, ty, pos, after, g⟩ t h n E K = aop P C (bare op) t h n E K := by
  unfold aop
  cases op <;> rfl
theorem evOps_plain (op : Op) : evOps P C E (⟨dst, op, ty, pos, after, none⟩ :: os) pre t h n K = step P C E op dst os pre t h n K := by
  rw [evOps]
  exact aop_bare P C E dst ty pos after t h n op none _
theorem evOps_guard (op : Op) (j : Nat) (want : Bool) : evOps P C E (⟨dst, op, ty, pos, after, some (j, want)⟩ :: os) pre t h n K = kGd P C E pre[j]? want op dst os pre t h n K := by
  rw [evOps]
  simp only [aop_bare]
  unfold kGd kG step
  rfl

theorem step_move (x : Operand) : step P C E (.move x) dst os pre t h n K = kS P C E (val t x) dst os pre t h n K := rfl
theorem step_assign (x : Operand) : step P C E (.assign x) dst os pre t h n K = evOps P C E os (pre ++ [dst]) (putT t dst (val t x)) h n K := rfl
def pickV (c a b : AV) : Option AV :=
  match c with
  | .one (.p (.v (.bool g))) => some (bif g then a else b)
  | _ => none
theorem step_pick (c a b : Operand) : step P C E (.pick c a b) dst os pre t h n K = kV P C E (pickV (val t c) (val t a) (val t b)) dst os pre t h n K := rfl
theorem step_load (x : Operand) : step P C E (.load ty x) dst os pre t h n K = kV P C E (ldA P ty h (val t x)) dst os pre t h n K := rfl
theorem step_fieldAddr (x : Operand) (f : Nat) : step P C E (.fieldAddr ty x f) dst os pre t h n K = kV P C E (fldA P ty h (val t x) f) dst os pre t h n K := rfl
theorem step_field (x : Operand) (f : Nat) : step P C E (.field ty x f) dst os pre t h n K = kV P C E (fieldA P ty (val t x) f) dst os pre t h n K := rfl
theorem step_indexAddr (x i : Operand) : step P C E (.indexAddr ty x i) dst os pre t h n K = kV P C E (idxA P ty h (val t x) (val t i)) dst os pre t h n K := rfl
theorem step_index (x i : Operand) : step P C E (.index ty x i) dst os pre t h n K = kV P C E (idxV P ty (val t x) (val t i)) dst os pre t h n K := rfl
theorem step_unOp (op : UnOp) (x : Operand) : step P C E (.unOp op ty x) dst os pre t h n K = kV P C E (unA op (val t x)) dst os pre t h n K := rfl
theorem step_convert (s d : TypeId) (x : Operand) : step P C E (.convert s d x) dst os pre t h n K = kV P C E (convA P h s d (val t x)) dst os pre t h n K := rfl
theorem step_slice (x : Operand) (lo hi mx : Option Operand) : step P C E (.slice ty x lo hi mx) dst os pre t h n K = kV P C E (slcA P ty h (val t x) (lo.map (val t)) (hi.map (val t)) (mx.map (val t))) dst os pre t h n K := rfl
theorem step_extract (x : Operand) (i : Nat) : step P C E (.extract x i) dst os pre t h n K = kV P C E (exA (val t x) i) dst os pre t h n K := rfl
theorem step_nilCheck (x : Operand) : step P C E (.nilCheck x) dst os pre t h n K = kV P C E (nilV h (val t x)) dst os pre t h n K := rfl
theorem valP_mk (t : Nat → AV) (i : Nat) (x : Operand) : valP t (i, x) = (i, val t x) := rfl
theorem step_build (parts : Array (Nat × Operand)) : step P C E (.build ty parts) dst os pre t h n K = kV P C E (bldA P h ty (parts.toList.map (valP t))) dst os pre t h n K := rfl
def cloV (fn : Fn) (a b : Option (List Cell)) : Option AV :=
  match a, b with
  | some a, some b => some (.one (.clo fn a b))
  | _, _ => none
theorem step_makeInterface (x : Operand) : step P C E (.makeInterface ty x) dst os pre t h n K = kV P C E (mkIf P ty (val t x)) dst os pre t h n K := rfl
theorem step_typeAssert (x : Operand) (u v : TypeId) (ok : Bool) : step P C E (.typeAssert x u v ok) dst os pre t h n K = kV P C E (tasA P (val t x) v ok) dst os pre t h n K := rfl
theorem step_panic (x : Operand) : step P C E (.panic x) dst os pre t h n K = kPn E (val t x) t h n := rfl
theorem step_makeFunc (fn : Fn) (first cap : Array Operand) : step P C E (.makeFunc fn first cap) dst os pre t h n K = kV P C E (cloV fn (cellOnes (first.toList.map (val t))) (cellOnes (cap.toList.map (val t)))) dst os pre t h n K := rfl
theorem step_binOp (op : BinOp) (u : TypeId) (x y : Operand) : step P C E (.binOp op ty x y u) dst os pre t h n K = kE P C E (binA P ty op (val t x) (val t y)) op ty x y (val t x) (val t y) dst os pre t h n K := rfl
theorem step_box (x : Operand) : step P C E (.box ty x) dst os pre t h n K = (okA h (val t x) = true ∧ evOps P C E os (pre ++ [dst]) (putT t dst (.one (.ptr (C.b + n) 0 0))) (upd h (C.b + n) ⟨0, cellsA (val t x)⟩) (n + 1) K) := rfl
def zeroC (P : Program) (ty : TypeId) : Option (List Cell) := (tzero P ty).map fun zs => zs.map fun v => .p (.v v)
theorem step_alloc : step P C E (.alloc ty) dst os pre t h n K = kL P C E (zeroC P ty) (.one (.ptr (C.b + n) 0 0)) dst os pre t h n K := by
  unfold step aop kL zeroC
  simp only
  cases tzero P ty <;> rfl
theorem step_buildSlice (len : Nat) (parts : Array (Nat × Operand)) : step P C E (.buildSlice ty len parts) dst os pre t h n K = kL P C E (bslA P h ty len (parts.toList.map (valP t))) (.one (.win (C.b + n) 0 0 len len)) dst os pre t h n K := by
  unfold step aop kL
  simp only
  show (match bslA P h ty len (parts.toList.map (valP t)) with | some cs => _ | none => _) = _
  cases bslA P h ty len (parts.toList.map (valP t)) <;> rfl
theorem step_store (x v : Operand) : step P C E (.store ty x v) dst os pre t h n K = kH P C E (stA P ty h (val t x) (val t v)) dst os pre t n K := by
  unfold step aop kH
  simp only
  all_goals (cases stA P ty h (val t x) (val t v) <;> rfl)
theorem step_makeSlice (l c : Operand) : step P C E (.makeSlice ty l c) dst os pre t h n K = MkR P C E ty (val t l) (val t c) dst os pre t h n K := rfl
theorem step_call (f : Operand) (xs : Array Operand) (tys : Array TypeId) : step P C E (.call ⟨.value f, xs, tys⟩) dst os pre t h n K = kC P C E (val t f) (xs.toList.map (val t)) dst os pre t h n K := rfl
theorem step_append (xs : Array Operand) (tys : Array TypeId) : step P C E (.call ⟨.builtin .append, xs, tys⟩) dst os pre t h n K = BiR P C E .append tys.toList (xs.toList.map (val t)) dst os pre t h n K := rfl
theorem step_copy (xs : Array Operand) (tys : Array TypeId) : step P C E (.call ⟨.builtin .copy, xs, tys⟩) dst os pre t h n K = BiR P C E .copy tys.toList (xs.toList.map (val t)) dst os pre t h n K := rfl
theorem step_clear (xs : Array Operand) (tys : Array TypeId) : step P C E (.call ⟨.builtin .clear, xs, tys⟩) dst os pre t h n K = BiR P C E .clear tys.toList (xs.toList.map (val t)) dst os pre t h n K := rfl
theorem step_len (x : Operand) : step P C E (.call ⟨.builtin .len, #[x], #[ty]⟩) dst os pre t h n K = kV P C E (lenA P ty h (val t x)) dst os pre t h n K := rfl
theorem step_cap (x : Operand) : step P C E (.call ⟨.builtin .cap, #[x], #[ty]⟩) dst os pre t h n K = kV P C E (capA P ty h (val t x)) dst os pre t h n K := rfl
theorem step_min (x y : Operand) (tys : Array TypeId) : step P C E (.call ⟨.builtin .min, #[x, y], tys⟩) dst os pre t h n K = kV P C E (mm2 false (val t x) (val t y)) dst os pre t h n K := rfl
theorem step_max (x y : Operand) (tys : Array TypeId) : step P C E (.call ⟨.builtin .max, #[x, y], tys⟩) dst os pre t h n K = kV P C E (mm2 true (val t x) (val t y)) dst os pre t h n K := rfl

theorem kV_some (v : AV) : kV P C E (some v) dst os pre t h n K = evOps P C E os (pre ++ [dst]) (putT t dst v) h n K := rfl
theorem kV_none : kV P C E none dst os pre t h n K = False := rfl
theorem kV_if (c : Prop) [Decidable c] (x : Option AV) : kV P C E (if c then x else none) dst os pre t h n K = (c ∧ kV P C E x dst os pre t h n K) := by
  unfold kV
  split <;> simp_all [optK]
theorem kE_some (v : AV) (op : BinOp) (ox oy : Operand) (a b : AV) : kE P C E (some v) op ty ox oy a b dst os pre t h n K = evOps P C E os (pre ++ [dst]) (putT t dst v) h n K := rfl
theorem kE_none (op : BinOp) (ox oy : Operand) (a b : AV) : kE P C E none op ty ox oy a b dst os pre t h n K = EqlR P C E op ty ox oy a b dst os pre t h n K := rfl
theorem kE_if (c : Prop) [Decidable c] (v : AV) (op : BinOp) (ox oy : Operand) (a b : AV) : kE P C E (if c then some v else none) op ty ox oy a b dst os pre t h n K =
    ((c → evOps P C E os (pre ++ [dst]) (putT t dst v) h n K) ∧ (¬ c → EqlR P C E op ty ox oy a b dst os pre t h n K)) := by
  unfold EqlR
  split <;> simp_all [kE]
theorem kL_some (cs : List Cell) (v : AV) : kL P C E (some cs) v dst os pre t h n K = evOps P C E os (pre ++ [dst]) (putT t dst v) (upd h (C.b + n) ⟨0, cs⟩) (n + 1) K := rfl
theorem kL_if (c : Prop) [Decidable c] (x : Option (List Cell)) (v : AV) : kL P C E (if c then x else none) v dst os pre t h n K = (c ∧ kL P C E x v dst os pre t h n K) := by
  split <;> simp_all [kL]
theorem kH_some (h' : Heap) : kH P C E (some h') dst os pre t n K = evOps P C E os (pre ++ [dst]) (putT t dst (.one .junk)) h' n K := rfl
theorem kH_if (c : Prop) [Decidable c] (x : Option Heap) : kH P C E (if c then x else none) dst os pre t n K = (c ∧ kH P C E x dst os pre t n K) := by
  split <;> simp_all [kH]
theorem kC_clo (g : FuncId) (first cap : List Cell) (args : List AV) : kC P C E (.one (.clo (.func g) first cap)) args dst os pre t h n K = CallR P C E g (first.map .one ++ (args ++ cap.map .one)) dst os pre t h n K := rfl
theorem kGd_some (d : Tmp) (want : Bool) (op : Op) : kGd P C E (some (some d)) want op dst os pre t h n K = kG P C E (t d) want op dst os pre t h n K := rfl
theorem kG_tt (op : Op) : kG P C E (.one (.p (.v (.bool true)))) true op dst os pre t h n K = step P C E op dst os pre t h n K := by simp [kG]
theorem kG_tf (op : Op) : kG P C E (.one (.p (.v (.bool true)))) false op dst os pre t h n K = evOps P C E os (pre ++ [dst]) (putT t dst undA) h n K := by simp [kG]
theorem kG_ft (op : Op) : kG P C E (.one (.p (.v (.bool false)))) true op dst os pre t h n K = evOps P C E os (pre ++ [dst]) (putT t dst undA) h n K := by simp [kG]
theorem kG_und (want : Bool) (op : Op) : kG P C E undA want op dst os pre t h n K = evOps P C E os (pre ++ [dst]) (putT t dst undA) h n K := rfl
theorem kS_und : kS P C E undA dst os pre t h n K = evOps P C E os (pre ++ [dst]) (putT t dst undA) h n K := rfl
theorem kG_ff (op : Op) : kG P C E (.one (.p (.v (.bool false)))) false op dst os pre t h n K = step P C E op dst os pre t h n K := by simp [kG]
theorem kS_true : kS P C E (.one (.p (.v (.bool true)))) dst os pre t h n K = evOps P C E os (pre ++ [dst]) (putT t dst (.one (.p (.v (.bool true))))) h n K := by simp [kS, splitB]
theorem kS_false : kS P C E (.one (.p (.v (.bool false)))) dst os pre t h n K = evOps P C E os (pre ++ [dst]) (putT t dst (.one (.p (.v (.bool false))))) h n K := by simp [kS, splitB]
/-- a truth value that is not known -/
theorem kS_any (g : Bool) : kS P C E (.one (.p (.v (.bool g)))) dst os pre t h n K = ((g = true → evOps P C E os (pre ++ [dst]) (putT t dst (.one (.p (.v (.bool true))))) h n K) ∧
    (g = false → evOps P C E os (pre ++ [dst]) (putT t dst (.one (.p (.v (.bool false))))) h n K)) := rfl
theorem kS_int (k : IntKind) (i : Int) : kS P C E (.one (.p (.v (.int k i)))) dst os pre t h n K = evOps P C E os (pre ++ [dst]) (putT t dst (.one (.p (.v (.int k i))))) h n K := rfl
theorem kS_float (k : FloatKind) (i : Nat) : kS P C E (.one (.p (.v (.float k i)))) dst os pre t h n K = evOps P C E os (pre ++ [dst]) (putT t dst (.one (.p (.v (.float k i))))) h n K := rfl
theorem kS_string (s : ByteArray) : kS P C E (.one (.p (.v (.string s)))) dst os pre t h n K = evOps P C E os (pre ++ [dst]) (putT t dst (.one (.p (.v (.string s))))) h n K := rfl
theorem kS_slice (a : Option Addr) (l c : Nat) : kS P C E (.one (.p (.v (.slice a l c)))) dst os pre t h n K = evOps P C E os (pre ++ [dst]) (putT t dst (.one (.p (.v (.slice a l c))))) h n K := rfl
theorem kS_pointer (a : Option Addr) : kS P C E (.one (.p (.v (.pointer a)))) dst os pre t h n K = evOps P C E os (pre ++ [dst]) (putT t dst (.one (.p (.v (.pointer a))))) h n K := rfl
theorem kS_nilFunc  : kS P C E (.one (.p (.v .nilFunc))) dst os pre t h n K = evOps P C E os (pre ++ [dst]) (putT t dst (.one (.p (.v .nilFunc)))) h n K := rfl
theorem kS_nilIface  : kS P C E (.one (.p (.v .nilIface))) dst os pre t h n K = evOps P C E os (pre ++ [dst]) (putT t dst (.one (.p (.v .nilIface)))) h n K := rfl
theorem kS_map (r : Option Nat) : kS P C E (.one (.p (.v (.map r)))) dst os pre t h n K = evOps P C E os (pre ++ [dst]) (putT t dst (.one (.p (.v (.map r))))) h n K := rfl
theorem kS_sl (z : Nat) (es : List (List PD)) : kS P C E (.one (.p (.sl z es))) dst os pre t h n K = evOps P C E os (pre ++ [dst]) (putT t dst (.one (.p (.sl z es)))) h n K := rfl
theorem kS_junk  : kS P C E (.one .junk) dst os pre t h n K = evOps P C E os (pre ++ [dst]) (putT t dst (.one .junk)) h n K := rfl
theorem kS_ptr (a b c : Nat) : kS P C E (.one (.ptr a b c)) dst os pre t h n K = evOps P C E os (pre ++ [dst]) (putT t dst (.one (.ptr a b c))) h n K := rfl
theorem kS_ro (a : List PD) : kS P C E (.one (.ro a)) dst os pre t h n K = evOps P C E os (pre ++ [dst]) (putT t dst (.one (.ro a))) h n K := rfl
theorem kS_win (a b c d e : Nat) : kS P C E (.one (.win a b c d e)) dst os pre t h n K = evOps P C E os (pre ++ [dst]) (putT t dst (.one (.win a b c d e))) h n K := rfl
theorem kS_clo (f : Fn) (a b : List Cell) : kS P C E (.one (.clo f a b)) dst os pre t h n K = evOps P C E os (pre ++ [dst]) (putT t dst (.one (.clo f a b))) h n K := rfl
theorem kS_agg (a : List Cell) : kS P C E (.agg a) dst os pre t h n K = evOps P C E os (pre ++ [dst]) (putT t dst (.agg a)) h n K := rfl
theorem kS_tup (a : List AV) : kS P C E (.tup a) dst os pre t h n K = evOps P C E os (pre ++ [dst]) (putT t dst (.tup a)) h n K := rfl

theorem kV_congr {x x' : Option AV} (e : x = x') : kV P C E x dst os pre t h n K = kV P C E x' dst os pre t h n K := by rw [e]
theorem kS_congr {x x' : AV} (e : x = x') : kS P C E x dst os pre t h n K = kS P C E x' dst os pre t h n K := by rw [e]
theorem kL_congr {x x' : Option (List Cell)} (v : AV) (e : x = x') : kL P C E x v dst os pre t h n K = kL P C E x' v dst os pre t h n K := by rw [e]
theorem kH_congr {x x' : Option Heap} (e : x = x') : kH P C E x dst os pre t n K = kH P C E x' dst os pre t n K := by rw [e]
theorem kGd_congr {x x' : Option (Option Tmp)} (want : Bool) (op : Op) (e : x = x') : kGd P C E x want op dst os pre t h n K = kGd P C E x' want op dst os pre t h n K := by rw [e]
theorem kG_congr {x x' : AV} (want : Bool) (op : Op) (e : x = x') : kG P C E x want op dst os pre t h n K = kG P C E x' want op dst os pre t h n K := by rw [e]
theorem kE_congr {x x' : Option AV} {a a' b b' : AV} (op : BinOp) (ox oy : Operand) (e : x = x') (ea : a = a') (eb : b = b') : kE P C E x op ty ox oy a b dst os pre t h n K = kE P C E x' op ty ox oy a' b' dst os pre t h n K := by rw [e, ea, eb]
theorem kC_congr {f f' : AV} {args args' : List AV} (e : f = f') (e2 : args = args') : kC P C E f args dst os pre t h n K = kC P C E f' args' dst os pre t h n K := by rw [e, e2]
theorem CallR_congr (g : FuncId) {args args' : List AV} (e : args = args') : CallR P C E g args dst os pre t h n K = CallR P C E g args' dst os pre t h n K := by rw [e]
theorem BiR_congr (b : Builtin) (tys : List TypeId) {args args' : List AV} (e : args = args') : BiR P C E b tys args dst os pre t h n K = BiR P C E b tys args' dst os pre t h n K := by rw [e]
theorem MkR_congr {x x' y y' : AV} (e : x = x') (e2 : y = y') : MkR P C E ty x y dst os pre t h n K = MkR P C E ty x' y' dst os pre t h n K := by rw [e, e2]
end

/-- a region, its ways on hidden -/
theorem AWP.reg {P : Program} {C : Ctx} {Q : Exit → St → Prop} {s : St} {id : Nat} {ops : Array Oper} (hN : regB C.N ops.toList = true)
    (e : ∀ (E : Exit → St → Prop) (K : FinT), (∀ e s, Q e s → E e s) → (∀ t h n, Q .normal ⟨t, h, n⟩ → K t h n) → evOps P C E ops.toList [] s.t s.h s.n K) : AWP P C (.region id ops false) Q s :=
  .region hN (e Q _ (fun _ _ h => h) (fun _ _ _ h => h))

/-- a region ahead of what follows -/
theorem AWP.seqReg {P : Program} {C : Ctx} {Q : Exit → St → Prop} {s : St} {id : Nat} {ops : Array Oper} {y : Code} (hN : regB C.N ops.toList = true)
    (e : ∀ (E : Exit → St → Prop) (K : FinT), (∀ e s, thn (AWP P C y Q) Q e s → E e s) → (∀ t h n, AWP P C y Q ⟨t, h, n⟩ → K t h n) → evOps P C E ops.toList [] s.t s.h s.n K) : AWP P C (.seq (.region id ops false) y) Q s :=
  .seq (.reg hN e)

theorem map_if {α β : Type} (c : Prop) [Decidable c] (x : Option α) (f : α → β) : Option.map f (if c then x else none) = if c then Option.map f x else none := by split <;> rfl
theorem bind_if {α β : Type} (c : Prop) [Decidable c] (x : Option α) (f : α → Option β) : Option.bind (if c then x else none) f = if c then Option.bind x f else none := by split <;> rfl
theorem map_some' {α β : Type} (f : α → β) (v : α) : Option.map f (some v) = some (f v) := rfl
theorem map_none' {α β : Type} (f : α → β) : Option.map f none = none := rfl
theorem bind_some' {α β : Type} (f : α → Option β) (v : α) : Option.bind (some v) f = f v := rfl
theorem bind_none' {α β : Type} (f : α → Option β) : Option.bind none f = none := rfl

theorem thn_normal (K : St → Prop) (Q : Exit → St → Prop) (s : St) : thn K Q .normal s = K s := rfl
theorem thn_ret (K : St → Prop) (Q : Exit → St → Prop) (s : St) : thn K Q .ret s = Q .ret s := rfl
theorem thn_exit (K : St → Prop) (Q : Exit → St → Prop) (s : St) (id : Nat) : thn K Q (.exit id) s = Q (.exit id) s := rfl
theorem thn_goto (K : St → Prop) (Q : Exit → St → Prop) (s : St) (id : Nat) : thn K Q (.goto id) s = Q (.goto id) s := rfl
theorem inBlk_normal (id : Nat) (Q : Exit → St → Prop) (s : St) : inBlk id Q .normal s = Q .normal s := rfl
theorem inBlk_ret (id : Nat) (Q : Exit → St → Prop) (s : St) : inBlk id Q .ret s = Q .ret s := rfl
theorem inBlk_goto (id l : Nat) (Q : Exit → St → Prop) (s : St) : inBlk id Q (.goto l) s = Q (.goto l) s := rfl
theorem inBlk_exit (id id' : Nat) (Q : Exit → St → Prop) (s : St) : inBlk id Q (.exit id') s = if id' = id then Q .normal s else Q (.exit id') s := rfl
theorem bodyQ_normal (P : Program) (C : Ctx) (fn : Func) (m : Nat) (R : AV → Heap → Prop) (s : St) : bodyQ P C fn m R .normal s = Ends P C fn m R s := rfl
theorem bodyQ_ret (P : Program) (C : Ctx) (fn : Func) (m : Nat) (R : AV → Heap → Prop) (s : St) : bodyQ P C fn m R .ret s = Ends P C fn m R s := rfl
theorem liveB_eq (h : Heap) (id ver : Nat) : liveB h id ver = match h id with | some b => decide (b.ver = ver) | none => false := rfl
theorem bool_true_eq : (true = false) = False := by simp
theorem bool_false_eq : (false = true) = False := by simp

attribute [congr] kV_congr kS_congr kL_congr kH_congr kGd_congr kG_congr kE_congr kC_congr CallR_congr BiR_congr MkR_congr
attribute [go_sem ↓] evOps_nil evOps_plain evOps_guard step_move step_assign step_pick step_load step_fieldAddr step_field step_indexAddr step_index step_unOp step_convert step_slice step_extract step_nilCheck step_build step_makeFunc step_makeInterface step_typeAssert step_panic step_binOp step_box step_alloc step_buildSlice step_store step_makeSlice step_call step_append step_copy step_clear step_len step_cap step_min step_max updT_lit upd_lit val putT_some putT_none thn_normal thn_ret thn_exit thn_goto inBlk_normal inBlk_ret inBlk_goto inBlk_exit bodyQ_normal bodyQ_ret
attribute [go_sem] argsT_zero argsT_succ argsT_nil kV_some kV_none kV_if kE_some kE_none kE_if kL_some kL_if kH_some kH_if kC_clo kGd_some kG_und kS_und kG_tt kG_tf kG_ft kG_ff kS_true kS_false kS_int kS_float kS_string kS_slice kS_pointer kS_nilFunc kS_nilIface kS_map kS_sl kS_junk kS_ptr kS_ro kS_win kS_clo kS_agg kS_tup map_if bind_if map_some' map_none' bind_some' bind_none'
  valP_mk pickV zeroC nilV cloV ofV okA okC cellsA ldA partA fldA idxA idxV intB shiftB strB floatB isShift binV eqV eqFs eqAV eqR binA unV unA convA txtV mkIf tasA ofV kPn fieldA intOfA bnd1 bndMx bndHi bndLo bndA slcA lenA capA exA mm2 spl fillA bldA cellOnes bslA stA liveB_eq repl resV resL resA
attribute [go_sem low] kS_any
attribute [go_sem] if_true if_false Nat.add_zero Nat.zero_add true_and and_true Nat.add_left_cancel_iff Nat.add_eq_left Nat.left_eq_add
  List.getElem?_cons_zero List.getElem?_cons_succ List.getElem?_nil List.take_zero List.take_succ_cons List.drop_zero List.drop_succ_cons List.take_nil List.drop_nil List.nil_append List.cons_append List.length_cons List.length_nil
  List.map_cons List.map_nil List.length_map ite_self Nat.sub_zero Nat.zero_mul Nat.one_mul or_true true_or Nat.zero_le Option.isSome_some Option.isSome_none List.append_nil List.all_cons List.all_nil Bool.and_true Bool.true_and Value.oneCell' decide_true decide_false Bool.not_true Bool.not_false forall_const false_implies implies_true
  bool_true_eq bool_false_eq cond_true cond_false gt_iff_lt ge_iff_le eq_self
end Go.Proofs.YtengjcdilnikhaaDoor.Am
