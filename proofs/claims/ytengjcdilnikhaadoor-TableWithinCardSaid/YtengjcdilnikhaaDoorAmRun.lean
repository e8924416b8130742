/-
  The abstract machine: operations that lay and write memory, calls, lists of operations, regions.
-/
import Derived.Test.YtengjcdilnikhaaDoorAmOps
namespace Go.Proofs.YtengjcdilnikhaaDoor.Am
set_option linter.unusedSimpArgs false
set_option linter.unusedVariables false
set_option linter.unnecessarySimpa false
open Go

abbrev KT := AV → Heap → Nat → Prop

/-- an operation, semantically: whatever K holds of, the walk goes on with; E: the ways out -/
def AOp (P : Program) (C : Ctx) (o : Oper) (s : St) (E : Exit → St → Prop) (K : KT) : Prop :=
  ∀ a w ι, Inv C ι s a w → ∀ (next : Act → World → Prop) (Q : Exit → Act → World → Prop), (∀ e s' ι' a' w', E e s' → Inv C ι' s' a' w' → Q e a' w') →
    (∀ v av h' n' ι' w', K av h' n' → Inv C ι' ⟨s.t, h', n'⟩ a w' → RAV ι' h' (C.b + n') w' av v → next (a.put o.dst v) w') → o.wp P a w next Q

/-- a computation of a value, semantically -/
def Gives (P : Program) (C : Ctx) (t : Nat → AV) (h : Heap) (n : Nat) (m : (Operand → Value) → Sem Value) (K : KT) : Prop :=
  ∀ a w ι, Inv C ι ⟨t, h, n⟩ a w → ∃ v w' av h' n' ι', (m a.eval).run P w = .ok v w' ∧ K av h' n' ∧ Inv C ι' ⟨t, h', n'⟩ a w' ∧ RAV ι' h' (C.b + n') w' av v

theorem AOp.of_gives {P : Program} {C : Ctx} {o : Oper} {t : Nat → AV} {h : Heap} {n : Nat} {E : Exit → St → Prop} {K : KT} {m : (Operand → Value) → Sem Value}
    (hm : ∀ ρ, execOp ρ o = (do pure (.value (← m ρ)))) (g : Gives P C t h n m K) : AOp P C o ⟨t, h, n⟩ E K := by
  intro a w ι I next Q _ hn
  obtain ⟨v, w', av, h', n', ι', h1, h2, h3, h4⟩ := g a w ι I
  unfold Oper.wp
  rw [hm]
  simp only [Sem.run_bind, h1, Result.andThen, Sem.run_pure, Oper.upon_value]
  exact hn v av h' n' ι' w' h2 h3 h4

theorem AOp.of_sop {P : Program} {C : Ctx} {o : Oper} {s : St} {E : Exit → St → Prop} {K : KT} {av : AV} (e : sop P s.t s.h o = some av) (hk : K av s.h s.n) : AOp P C o s E K := by
  intro a w ι I next Q _ hn
  obtain ⟨v, h1, h2⟩ := sop_ok (P := P) (val_ok I) I.heap e
  unfold Oper.wp
  rw [h1, Oper.upon_value]
  exact hn v av s.h s.n ι w hk I h2

/-! ### blocks -/
theorem Gives.laid {P : Program} {C : Ctx} {t : Nat → AV} {h : Heap} {n : Nat} {m : (Operand → Value) → Sem Value} {K : KT} (cs : List Cell) (val : AV)
    (hm : ∀ a w ι, Inv C ι ⟨t, h, n⟩ a w → ∃ (V : Array Value) (ty : TypeId) (v : Value), (m a.eval).run P w = .ok v (w.alloc (.cells V ty)) ∧ Reps ι h (C.b + n) w cs V.toList ∧
      RAV (ren ι (C.b + n) w.heap.size) (upd h (C.b + n) ⟨0, cs⟩) (C.b + (n + 1)) (w.alloc (.cells V ty)) val v)
    (hk : K val (upd h (C.b + n) ⟨0, cs⟩) (n + 1)) : Gives P C t h n m K := by
  intro a w ι I
  obtain ⟨V, ty, v, h1, h2, h3⟩ := hm a w ι I
  have hb : h (C.b + n) = none := I.bound _ (Nat.le_refl _)
  obtain ⟨_, I'⟩ := I.place (C.b + n) (n + 1) (Nat.le_succ _) (by omega) 0 (fun b e => by have e' : h (C.b + n) = some b := e; rw [hb] at e'; cases e') (fun _ => Nat.le_refl _) cs V ty (by simpa using h2.1)
    (fun j d u hd hu => h2.2 j d u hd (by simpa using hu))
  exact ⟨v, _, val, _, _, _, h1, hk, I', h3⟩

/-- the result of a laid block: a pointer to its head -/
theorem rav_new_ptr {C : Ctx} {ι : Nat → Nat} {h : Heap} {n : Nat} {w' : World} {cs : List Cell} (g : Nat) :
    RAV (ren ι (C.b + n) g) (upd h (C.b + n) ⟨0, cs⟩) (C.b + (n + 1)) w' (.one (.ptr (C.b + n) 0 0)) (.pointer (some ⟨g, 0, none⟩)) := by
  refine .one (.ptr (by omega) (fun blk e => by rw [upd_same] at e; injection e with e; subst e; exact Nat.le_refl _) (fun blk e _ => ?_))
  rw [ren_same]

theorem rav_new_win {C : Ctx} {ι : Nat → Nat} {h : Heap} {n : Nat} {w' : World} {cs : List Cell} (g len cap : Nat) (hl : len ≤ cap) :
    RAV (ren ι (C.b + n) g) (upd h (C.b + n) ⟨0, cs⟩) (C.b + (n + 1)) w' (.one (.win (C.b + n) 0 0 len cap)) (.slice (some ⟨g, 0, none⟩) len cap) := by
  refine .one (.win (by omega) (fun blk e => by rw [upd_same] at e; injection e with e; subst e; exact Nat.le_refl _) (fun blk e _ => ⟨hl, .inl ?_⟩))
  rw [ren_same]

def okA (h : Heap) : AV → Bool
  | .one c => okC h c
  | .agg _ => true
  | .tup _ => false

theorem reps_okA {ι : Nat → Nat} {h : Heap} {bd : Nat} {w : World} {x : AV} {X : Value} (r : RAV ι h bd w x X) (ok : okA h x = true) : Reps ι h bd w (cellsA x) X.cells.toList :=
  reps_cells r (fun c e => by subst e; exact ok) (fun vs e => by subst e; cases ok)

theorem box_ok {P : Program} {C : Ctx} {t : Nat → AV} {h : Heap} {n : Nat} {K : KT} {ty : TypeId} {x : Operand} (ok : okA h (val t x) = true)
    (hk : K (.one (.ptr (C.b + n) 0 0)) (upd h (C.b + n) ⟨0, cellsA (val t x)⟩) (n + 1)) : Gives P C t h n (fun ρ => Instr.box ty (ρ x)) K := by
  refine .laid _ _ (fun a w ι I => ?_) hk
  have r := val_ok I x
  exact ⟨(a.eval x).cells, ty, .pointer (some ⟨w.heap.size, 0, none⟩), rfl, reps_okA r ok, rav_new_ptr w.heap.size⟩

theorem alloc_ok {P : Program} {C : Ctx} {t : Nat → AV} {h : Heap} {n : Nat} {K : KT} {ty : TypeId} {zs : List Value} (hz : tzero P ty = some zs)
    (hk : K (.one (.ptr (C.b + n) 0 0)) (upd h (C.b + n) ⟨0, zs.map fun v => .p (.v v)⟩) (n + 1)) : Gives P C t h n (fun _ => Instr.alloc ty true (.tuple #[])) K := by
  refine .laid _ _ (fun a w ι I => ?_) hk
  obtain ⟨i, z, hi, hiz, hzs⟩ := tzero_run hz
  refine ⟨z.cells, ty, .pointer (some ⟨w.heap.size, 0, none⟩), ?_, by rw [hzs]; exact reps_vs zs, rav_new_ptr w.heap.size⟩
  have : (zeroValue ty).run P w = .ok z w := by simp [zeroValue, typeInfo, hi, hiz]
  simp only [Instr.alloc, Sem.run_bind, this, Result.andThen, newVar, newRow, run_newObj, Sem.run_pure]
  rfl

/-- n times the same cells -/
def repl {α : Type} (zs : List α) : Nat → List α
  | 0 => []
  | n + 1 => zs ++ repl zs n

theorem repl_length {α : Type} (zs : List α) (n : Nat) : (repl zs n).length = n * zs.length := by
  induction n with
  | zero => simp [repl]
  | succ n ih => simp [repl, ih, Nat.add_mul]; omega

theorem repl_get {α : Type} (zs : List α) : ∀ (n i : Nat), i < n * zs.length → (repl zs n)[i]? = zs[i % zs.length]?
  | 0, i, h => by simp at h
  | n + 1, i, h => by
    have hz : 0 < zs.length := by
      rcases Nat.eq_zero_or_pos zs.length with h0 | h0
      · rw [h0] at h; simp at h
      · exact h0
    simp only [repl, List.getElem?_append]
    by_cases hi : i < zs.length
    · rw [if_pos hi, Nat.mod_eq_of_lt hi]
    · rw [if_neg hi, repl_get zs n (i - zs.length) (by rw [Nat.add_mul] at h; omega)]
      congr 1
      exact (Nat.mod_eq_sub_mod (by omega)).symm

theorem repl_map {α β : Type} (f : α → β) (zs : List α) (n : Nat) : repl (zs.map f) n = (repl zs n).map f := by
  induction n with
  | zero => rfl
  | succ n ih => simp [repl, ih]

theorem range_repl (zs : List Value) (n sz : Nat) (hs : zs.length = sz) : ((Array.range (n * sz)).map (zs.toArray[· % zs.toArray.size]!)) = (repl zs n).toArray := by
  apply Array.ext'
  apply List.ext_getElem?
  intro i
  by_cases hi : i < n * sz
  · have hz : 0 < sz := by
      rcases Nat.eq_zero_or_pos sz with h0 | h0
      · rw [h0] at hi; simp at hi
      · exact h0
    have hm : i % zs.length < zs.length := Nat.mod_lt _ (by omega)
    rw [repl_get zs n i (by rw [hs]; exact hi)]
    simp [hi, hm]
  · have e1 : (repl zs n)[i]? = none := List.getElem?_eq_none (by rw [repl_length, hs]; omega)
    rw [e1]
    simp [hi]

def bslA (P : Program) (h : Heap) (ty : TypeId) (len : Nat) (parts : List (Nat × AV)) : Option (List Cell) :=
  match slE P ty with
  | some e => match tsz P e, tzero P e with
    | some z, some zs => if zs.length = z ∧ (0 < len * z ∨ len = 0) ∧ len * z ≤ 16777216 then fillA h (fun i => some (i * z, z)) (repl (zs.map fun v => .p (.v v)) len) parts else none
    | _, _ => none
  | none => none

theorem reps_repl {ι : Nat → Nat} {h : Heap} {bd : Nat} {w : World} (zs : List Value) (n : Nat) : Reps ι h bd w (repl (zs.map fun v => Cell.p (.v v)) n) (repl zs n) := by
  rw [repl_map]
  exact reps_vs _

theorem parts_ok {ι : Nat → Nat} {h : Heap} {bd : Nat} {w : World} {t : Nat → AV} {ρ : Operand → Value} (rel : ∀ x, RAV ι h bd w (val t x) (ρ x)) (parts : Array (Nat × Operand)) :
    ∀ (k i : Nat) (x : AV), (parts.toList.map fun (i, x) => (i, val t x))[k]? = some (i, x) → ∃ X, ((parts.map fun (i, x) => (i, ρ x)).toList)[k]? = some (i, X) ∧ RAV ι h bd w x X := by
  intro k i x hk
  rw [List.getElem?_map] at hk
  cases hq : parts.toList[k]? with
  | none => rw [hq] at hk; simp at hk
  | some q =>
    obtain ⟨j, y⟩ := q
    rw [hq] at hk
    simp at hk
    obtain ⟨rfl, rfl⟩ := hk
    exact ⟨ρ y, by rw [Array.toList_map, List.getElem?_map, hq]; rfl, rel y⟩

theorem bsl_ok {P : Program} {C : Ctx} {t : Nat → AV} {h : Heap} {n : Nat} {K : KT} {ty : TypeId} {len : Nat} {parts : Array (Nat × Operand)} {cs : List Cell}
    (e : bslA P h ty len (parts.toList.map fun (i, x) => (i, val t x)) = some cs)
    (hk : K (.one (.win (C.b + n) 0 0 len len)) (upd h (C.b + n) ⟨0, cs⟩) (n + 1)) : Gives P C t h n (fun ρ => Instr.buildSlice ty len (parts.map fun (i, x) => (i, ρ x))) K := by
  refine .laid _ _ (fun a w ι I => ?_) hk
  unfold bslA at e
  split at e
  · rename_i el hel
    split at e
    · rename_i z zs hsz hz
      split at e
      · rename_i hc
        obtain ⟨hzl, h0, hle⟩ := hc
        obtain ⟨i, zv, hi, hiz, hzs⟩ := tzero_run hz
        obtain ⟨V', h1, h2⟩ := fill_ok _ ((parts.map fun (i, x) => (i, a.eval x)).toList) (by simp) (parts_ok (val_ok I) parts) _ (repl zs len).toArray (by simpa using reps_repl zs len) cs e
        refine ⟨V', el, .slice (some ⟨w.heap.size, 0, none⟩) len len, ?_, h2, rav_new_win w.heap.size len len (Nat.le_refl _)⟩
        rcases h0 with h0 | rfl
        case inr =>
          have h1' : Instr.fill (fun i => some (i * z, z)) #[] (parts.map fun (i, x) => (i, a.eval x)).toList = some V' := h1
          simp only [Instr.buildSlice, Sem.run_bind, run_underlying (slE_run hel), tsz_run hsz, Result.andThen]
          rw [if_neg (by omega), if_pos (by omega)]
          simp only [Sem.run_bind, Result.andThen, Sem.run_pure, Nat.zero_mul, Array.range_zero', Array.map_empty]
          rw [h1']
          rfl
        have hzr : (zeroValue el).run P w = .ok zv w := by simp [zeroValue, typeInfo, hi, hiz]
        have hzc : zv.cells = zs.toArray := by apply Array.ext'; simpa using hzs
        have hr := range_repl zs len z hzl
        simp only [Instr.buildSlice, Sem.run_bind, run_underlying (slE_run hel), tsz_run hsz, Result.andThen]
        rw [if_neg (by omega), if_neg (by omega)]
        simp only [Sem.run_bind, hzr, Result.andThen, Sem.run_pure, hzc]
        rw [hr, h1]
        rfl
      · cases e
    · cases e
  · cases e

/-! ### a store -/
def stA (P : Program) (ty : TypeId) (h : Heap) (x v : AV) : Option Heap :=
  match x with
  | .one (.ptr id ver off) => match h id with
    | some b => if b.ver = ver ∧ okA h v = true ∧ (cellsA v).all (okC h) = true ∧ tsz P ty = some (cellsA v).length ∧ off + (cellsA v).length ≤ b.cells.length ∧ 0 < (cellsA v).length then some (upd h id ⟨ver, spl b.cells off (cellsA v)⟩) else none
    | none => none
  | _ => none

theorem st_ok {P : Program} {C : Ctx} {o : Oper} {t : Nat → AV} {h : Heap} {n : Nat} {E : Exit → St → Prop} {K : KT} {ty : TypeId} {x v : Operand} (ho : o.op = .store ty x v) {h' : Heap}
    (e : stA P ty h (val t x) (val t v) = some h') (hk : K (.one .junk) h' n) : AOp P C o ⟨t, h, n⟩ E K := by
  intro a w ι I next Q _ hn
  have rx := val_ok I x
  have rv := val_ok I v
  unfold stA at e
  split at e
  · rename_i id ver off hx
    have rx : RAV ι h (C.b + n) w (val t x) (a.eval x) := rx
    rw [hx] at rx
    split at e
    · rename_i b hb
      split at e
      · rename_i hc
        obtain ⟨hver, hok, hall, hsz, hle, hpos⟩ := hc
        injection e with e
        subst e
        have hX := ptr_inv rx hb hver
        have hne : b.cells ≠ [] := by intro hh; rw [hh] at hle; simp only [List.length_nil] at hle; omega
        obtain ⟨c, ty', g1, g2, g3⟩ := I.heap.blk id b hb hne
        have q : Reps ι h (C.b + n) w (cellsA (val t v)) (a.eval v).cells.toList := reps_okA rv hok
        have ql := q.1
        have r0 : Reps ι h (C.b + n) w b.cells c.toList := ⟨by simpa using g2, fun j d u hd hu => g3 j d u hd (by simpa using hu)⟩
        have r1 := Reps.spl r0 q hle
        have hone : ∀ u ∈ (a.eval v).cells.toList, u.oneCell' = true := by
          intro u hu
          obtain ⟨j, hj⟩ := List.mem_iff_getElem?.1 hu
          have hlt : j < (cellsA (val t v)).length := by rw [← ql]; exact (List.getElem?_eq_some_iff.1 hj).1
          have hd : (cellsA (val t v))[j]? = some (cellsA (val t v))[j] := List.getElem?_eq_getElem hlt
          exact (okC_run (q.2 j _ u hd hj) (List.all_eq_true.1 hall _ (List.getElem_mem hlt))).1
        have hst := run_storeCells_at (P := P) (ι id) off ty' (a.eval v).cells.toList 0 c w g1 (by simp at ql ⊢; omega) hone
        obtain ⟨_, I'⟩ := I.write id b hb hne ver (Nat.le_of_eq hver) (spl b.cells off (cellsA (val t v))) (c.toList.take off ++ ((a.eval v).cells.toList ++ c.toList.drop (off + (a.eval v).cells.toList.length))).toArray
          (by have := r1.1; simp [spl]; omega) (by have := r1.1; simpa using this) (fun j d u hd hu => r1.2 j d u hd (by simpa using hu))
        unfold Oper.wp execOp
        simp only [ho]
        have hrun : (Instr.storeAt ty (a.eval x) (a.eval v)).run P w = .ok () (w.setRow (ι id) (c.toList.take off ++ ((a.eval v).cells.toList ++ c.toList.drop (off + (a.eval v).cells.toList.length))).toArray) := by
          rw [hX]
          simp only [Instr.storeAt, Instr.sureAddr, Sem.run_bind, Sem.run_pure, Result.andThen, storeVar, tsz_run hsz]
          rw [if_neg (by simp at ql ⊢; omega), hst]
          simp
        simp only [Sem.run_bind, hrun, Result.andThen, Sem.run_pure, Oper.upon_skip]
        exact hn undef (.one .junk) _ n ι _ hk I' (.one (.junk _))
      · cases e
    · cases e
  · cases e

/-! ### calls -/
def bodyB (P : Program) (g : FuncId) : Bool :=
  match P.funcs[g]? with
  | some fn => fn.body.isSome && fn.name != "runtime.NumGoroutine"
  | none => false

theorem callFunc_run {P : Program} {g : FuncId} (e : bodyB P g = true) (args : Array Value) (w : World) : (callFunc g args).run P w = .ok (.enter g args) w := by
  unfold bodyB at e
  split at e
  · rename_i fn hf
    simp only [Bool.and_eq_true, bne_iff_ne, ne_eq] at e
    have hb : fn.body.isNone = false := by cases h : fn.body <;> simp_all
    have hn : (fn.name == "runtime.NumGoroutine") = false := by simpa using e.2
    simp only [callFunc, Sem.run_bind, run_program, Result.andThen, hf, hn, hb]
    rfl
  · cases e

def junkT : Nat → AV := fun _ => .one .junk

theorem Inv.junk {C : Ctx} {ι : Nat → Nat} {t : Nat → AV} {h : Heap} {n : Nat} {a : Act} {w : World} (I : Inv C ι ⟨t, h, n⟩ a w) : Inv C ι ⟨junkT, h, n⟩ a w :=
  ⟨I.outer, I.fresh, I.bound, I.heap, fun _ => .one (.junk _), I.ntmps, I.defers, I.keeps⟩

theorem Inv.unjunk {C : Ctx} {ι ι' : Nat → Nat} {t t' : Nat → AV} {h h' : Heap} {n n' : Nat} {a : Act} {w w' : World} (I : Inv C ι ⟨t, h, n⟩ a w) (I' : Inv C ι' ⟨t', h', n'⟩ a w') (M : Moves ι h (C.b + n) w ι' h' (C.b + n') w') : Inv C ι' ⟨t, h', n'⟩ a w' :=
  ⟨I'.outer, I'.fresh, I'.bound, I'.heap, fun i => (I.tmps i).move M, I'.ntmps, I'.defers, I'.keeps⟩

/-- a call of a function that has no body, semantically -/
def ExtK (P : Program) (C : Ctx) (g : FuncId) (args : List AV) (h : Heap) (n : Nat) (K : KT) : Prop :=
  ∀ a w ι Vs, Inv C ι ⟨junkT, h, n⟩ a w → RAVs ι h (C.b + n) w args Vs → ∃ v w' av h' n' ι', (callFunc g Vs.toArray).run P w = .ok (.value v) w' ∧ K av h' n' ∧ Inv C ι' ⟨junkT, h', n'⟩ a w' ∧ RAV ι' h' (C.b + n') w' av v ∧
    Moves ι h (C.b + n) w ι' h' (C.b + n') w'

/-- a call of a function, semantically -/
def CallK (P : Program) (C : Ctx) (g : FuncId) (args : List AV) (h : Heap) (n : Nat) (K : KT) : Prop :=
  (∃ (m : Nat) (R : AV → Heap → Prop), bodyB P g = true ∧ ACalls P g args h (C.b + n) m R ∧ ∀ r h', R r h' → K r h' (n + m)) ∨ ExtK P C g args h n K

theorem Post.inv {C : Ctx} {ι ι' : Nat → Nat} {s : St} {a : Act} {w w' : World} {m : Nat} {h' : Heap} (I : Inv C ι s a w) (p : Post ι s.h (C.b + s.n) w m ι' h' w') : Inv C ι' ⟨s.t, h', s.n + m⟩ a w' := by
  have M : Moves ι s.h (C.b + s.n) w ι' h' (C.b + (s.n + m)) w' := by
    refine ⟨by omega, fun b hs hb id blk e ne => ?_, p.keeps.old, fun id hid b' e => ?_⟩
    · rcases Nat.lt_or_ge id (C.b + s.n) with hlt | hge
      · obtain ⟨b0, h0, h1, h2⟩ := p.outer id hlt blk e
        rcases h2 with ⟨h2, h3⟩ | ⟨_, h3⟩
        · rw [h3]
          exact hs id b0 h0 (len_nil h2 ne)
        · have := h3 ne; omega
      · have := p.fresh id hge blk e ne
        omega
    · obtain ⟨b0, h0, h1⟩ := p.outer id hid b' e
      exact ⟨b0, h0, h1.1, fun h => h1.place h⟩
  refine ⟨fun id hid b' e => ?_, fun id hid b' e ne => ?_, fun id hid => p.bound id (by simp only at hid; omega), ?_, fun t => (I.tmps t).move M, I.ntmps, I.defers, ?_⟩
  · obtain ⟨b0, h0, h1⟩ := p.outer id (by omega) b' e
    obtain ⟨b1, k0, k1⟩ := I.outer id hid b0 h0
    exact ⟨b1, k0, k1.trans h1 I.keeps.size⟩
  · rcases Nat.lt_or_ge id (C.b + s.n) with hlt | hge
    · obtain ⟨b0, h0, h1, h2⟩ := p.outer id hlt b' e
      rcases h2 with ⟨h2, h3⟩ | ⟨_, h3⟩
      · rw [h3]
        exact I.fresh id hid b0 h0 (len_nil h2 ne)
      · exact Nat.le_trans I.keeps.size (h3 ne)
    · exact Nat.le_trans I.keeps.size (p.fresh id hge b' e ne)
  · have := p.heap
    rw [Nat.add_assoc] at this
    exact this
  · refine ⟨Nat.le_trans I.keeps.size p.keeps.size, p.keeps.os.trans I.keeps.os, p.keeps.output.trans I.keeps.output, fun b hs hb => ?_⟩
    have hlt : b < w.heap.size := Nat.lt_of_lt_of_le hb I.keeps.size
    rw [p.keeps.old b (fun id blk e ne => ?_) hlt, I.keeps.old b hs hb]
    rcases Nat.lt_or_ge id C.b with h1 | h1
    · obtain ⟨b1, k0, k1, k2⟩ := I.outer id h1 blk e
      rcases k2 with ⟨k2, k3⟩ | ⟨_, k3⟩
      · rw [k3]
        exact hs id b1 k0 (len_nil k2 ne)
      · have := k3 ne; omega
    · have := I.fresh id h1 blk e ne
      omega

theorem RAVs.app {ι : Nat → Nat} {h : Heap} {bd : Nat} {w : World} {as bs : List AV} {va vb : List Value} (ha : RAVs ι h bd w as va) (hb : RAVs ι h bd w bs vb) : RAVs ι h bd w (as ++ bs) (va ++ vb) := by
  refine ⟨by simp [ha.1, hb.1], fun i c u hc hu => ?_⟩
  rw [List.getElem?_append] at hc hu
  rw [ha.1] at hu
  split at hc
  · rename_i hi; rw [if_pos hi] at hu; exact ha.2 i c u hc hu
  · rename_i hi; rw [if_neg hi] at hu; exact hb.2 _ c u hc hu

theorem ravs_map {ι : Nat → Nat} {h : Heap} {bd : Nat} {w : World} {t : Nat → AV} {ρ : Operand → Value} (rel : ∀ x, RAV ι h bd w (val t x) (ρ x)) (xs : List Operand) : RAVs ι h bd w (xs.map (val t)) (xs.map ρ) := by
  refine ⟨by simp, fun i c u hc hu => ?_⟩
  rw [List.getElem?_map] at hc hu
  cases hx : xs[i]? with
  | none => rw [hx] at hc; simp at hc
  | some x => rw [hx] at hc hu; simp at hc hu; subst hc; subst hu; exact rel x

theorem ravs_cells {ι : Nat → Nat} {h : Heap} {bd : Nat} {w : World} {cs : List Cell} {V : List Value} (hl : V.length = cs.length) (hv : ∀ (i : Nat) (c : Cell) (u : Value), cs[i]? = some c → V[i]? = some u → RCell ι h bd w c u) :
    RAVs ι h bd w (cs.map .one) V := by
  refine ⟨by simp [hl], fun i c u hc hu => ?_⟩
  rw [List.getElem?_map] at hc
  cases hx : cs[i]? with
  | none => rw [hx] at hc; simp at hc
  | some x => rw [hx] at hc; simp at hc; subst hc; exact .one (hv i x u hx hu)

theorem call_ok {P : Program} {C : Ctx} {o : Oper} {t : Nat → AV} {h : Heap} {n : Nat} {E : Exit → St → Prop} {K : KT} {f : Operand} {xs : Array Operand} {tys : Array TypeId} (ho : o.op = .call ⟨.value f, xs, tys⟩)
    {g : FuncId} {first cap : List Cell} (hf : val t f = .one (.clo (.func g) first cap)) (k : CallK P C g (first.map .one ++ xs.toList.map (val t) ++ cap.map .one) h n K) : AOp P C o ⟨t, h, n⟩ E K := by
  intro a w ι I next Q _ hn
  have rf := val_ok I f
  have rf : RAV ι h (C.b + n) w (val t f) (a.eval f) := rf
  rw [hf] at rf
  have hF : ∃ F D : List Value, a.eval f = .func (.func g) F.toArray D.toArray ∧ RAVs ι h (C.b + n) w (first.map .one) F ∧ RAVs ι h (C.b + n) w (cap.map .one) D := by
    revert rf
    generalize a.eval f = X
    intro rf
    cases rf with
    | one hc => cases hc with | clo F D hF hD h1 h2 => exact ⟨F, D, rfl, ravs_cells hF h1, ravs_cells hD h2⟩
  obtain ⟨F, D, hX, r1, r3⟩ := hF
  have r2 := ravs_map (val_ok I) xs.toList
  rcases k with ⟨m, R, hb, hc, hk⟩ | k
  case inr =>
    obtain ⟨v, w', av, h', n', ι', h1, h2, h3, h4, h5⟩ := k a w ι _ I.junk (RAVs.app (RAVs.app r1 r2) r3)
    unfold Oper.wp execOp
    have hrun : (do let d ← resolve a.eval ⟨.value f, xs, tys⟩ o.type; invoke d.target d.args : Sem Next).run P w = .ok (.value v) w' := by
      simp only [resolve, Deferred.ofValue, hX, Sem.run_bind, Sem.run_pure, Result.andThen, invoke]
      rw [← h1]
      congr 2
      apply Array.ext'
      simp
    simp only [ho, hrun, Oper.upon_value]
    exact hn v av h' n' ι' w' h2 (I.unjunk h3 h5) h4
  unfold Oper.wp execOp
  have hrun : (do let d ← resolve a.eval ⟨.value f, xs, tys⟩ o.type; invoke d.target d.args : Sem Next).run P w = .ok (.enter g (F ++ xs.toList.map a.eval ++ D).toArray) w := by
    simp only [resolve, Deferred.ofValue, hX, Sem.run_bind, Sem.run_pure, Result.andThen, invoke, callFunc_run hb]
    congr 2
    apply Array.ext'
    simp
  simp only [ho, hrun, Oper.upon_enter]
  refine (hc ι w _ (fun id hid => I.bound id hid) I.heap (RAVs.app (RAVs.app r1 r2) r3)).mono ?_
  rintro e w' ⟨v, r, h', ι', rfl, hR, hp, hv⟩
  exact hn v r h' (n + m) ι' w' (hk r h' hR) (Post.inv I hp) (by rw [← Nat.add_assoc]; exact hv)

end Go.Proofs.YtengjcdilnikhaaDoor.Am
