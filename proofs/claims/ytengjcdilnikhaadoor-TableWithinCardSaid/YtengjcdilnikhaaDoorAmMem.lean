/-
  The abstract machine: what happens to memory (a slot written, a block laid, a block written, a row moved).
-/
import Derived.Test.YtengjcdilnikhaaDoorAmCode
import Derived.Laws.IdiomCopy
namespace Go.Proofs.YtengjcdilnikhaaDoor.Am
set_option linter.unusedSimpArgs false
set_option linter.unusedVariables false
set_option linter.unnecessarySimpa false
open Go

def updT (t : Nat → AV) (d : Nat) (v : AV) : Nat → AV := fun i => if i = d then v else t i

theorem updT_same (t : Nat → AV) (d : Nat) (v : AV) : updT t d v d = v := by simp [updT]
theorem updT_ne (t : Nat → AV) (d i : Nat) (v : AV) (e : i ≠ d) : updT t d v i = t i := by simp [updT, e]

def putT (t : Nat → AV) (d : Option Tmp) (v : AV) : Nat → AV :=
  match d with
  | some d => updT t d v
  | none => t

def dstOK (N : Nat) (d : Option Tmp) : Prop :=
  match d with
  | some d => d < N
  | none => True

theorem Inv.put {C : Ctx} {ι : Nat → Nat} {s : St} {a : Act} {w : World} (I : Inv C ι s a w) {d : Option Tmp} (hd : dstOK C.N d) {av : AV} {v : Value} (r : RAV ι s.h (C.b + s.n) w av v) :
    Inv C ι ⟨putT s.t d av, s.h, s.n⟩ (a.put d v) w := by
  cases d with
  | none => exact I
  | some d =>
    refine ⟨I.outer, I.fresh, I.bound, I.heap, fun t => ?_, by simpa [Act.put] using I.ntmps, I.defers, I.keeps⟩
    have hlt : d < a.tmps.size := by rw [I.ntmps]; exact hd
    show RAV ι s.h (C.b + s.n) w (updT s.t d av t) ((a.tmps.setIfInBounds d v).getD t undef)
    by_cases e : t = d
    · subst e
      rw [updT_same]
      have : (a.tmps.setIfInBounds t v).getD t undef = v := by simp [Array.getD, hlt]
      rw [this]; exact r
    · rw [updT_ne _ _ _ _ e]
      have : (a.tmps.setIfInBounds d v).getD t undef = a.tmps.getD t undef := by
        simp only [Array.getD_eq_getD_getElem?, Array.getElem?_setIfInBounds]
        rw [if_neg (fun h => e h.symm)]
      rw [this]; exact I.tmps t

def ren (ι : Nat → Nat) (id g : Nat) : Nat → Nat := fun i => if i = id then g else ι i

theorem ren_same (ι : Nat → Nat) (id g : Nat) : ren ι id g id = g := by simp [ren]
theorem ren_ne (ι : Nat → Nat) (id g i : Nat) (e : i ≠ id) : ren ι id g i = ι i := by simp [ren, e]

/-- the blocks of the abstract heap lie in the world -/
theorem HeapOK.lt {ι : Nat → Nat} {h : Heap} {bd : Nat} {w : World} (H : HeapOK ι h bd w) {id : Nat} {b : Blk} (e : h id = some b) (n : b.cells ≠ []) : ι id < w.heap.size := by
  obtain ⟨c, ty, h1, _⟩ := H.blk id b e n
  rcases Nat.lt_or_ge (ι id) w.heap.size with h' | h'
  · exact h'
  · rw [Array.getElem?_eq_none h'] at h1; cases h1

theorem heap_alloc_old (w : World) (o : Obj) (b : Nat) (hb : b < w.heap.size) : (w.alloc o).heap[b]? = w.heap[b]? := by
  simp only [World.alloc, Array.getElem?_push]
  rw [if_neg (by omega)]

theorem heap_alloc_at (w : World) (o : Obj) : (w.alloc o).heap[w.heap.size]? = some o := by
  show (w.heap.push o)[w.heap.size]? = some o
  simp

/-- a block moves or is laid: number id is at a new place -/
theorem Inv.place {C : Ctx} {ι : Nat → Nat} {s : St} {a : Act} {w : World} (I : Inv C ι s a w) (id n' : Nat) (hn : s.n ≤ n') (hhi : id < C.b + n') (ver : Nat)
    (hver : ∀ b, s.h id = some b → b.ver < ver) (hnew : s.h id = none → C.b + s.n ≤ id) (cs : List Cell) (V : Array Value) (ty : TypeId) (hV : V.size = cs.length)
    (hr : ∀ (j : Nat) (d : Cell) (u : Value), cs[j]? = some d → V[j]? = some u → RCell ι s.h (C.b + s.n) w d u) :
    Moves ι s.h (C.b + s.n) w (ren ι id w.heap.size) (upd s.h id ⟨ver, cs⟩) (C.b + n') (w.alloc (.cells V ty)) ∧
    Inv C (ren ι id w.heap.size) ⟨s.t, upd s.h id ⟨ver, cs⟩, n'⟩ a (w.alloc (.cells V ty)) := by
  have M : Moves ι s.h (C.b + s.n) w (ren ι id w.heap.size) (upd s.h id ⟨ver, cs⟩) (C.b + n') (w.alloc (.cells V ty)) := by
    refine ⟨by omega, fun b hs hb i blk e ne => ?_, fun b _ hb => heap_alloc_old w _ b hb, fun i hi b' e => ?_⟩
    · by_cases hi : i = id
      · subst hi; rw [ren_same]; omega
      · rw [ren_ne _ _ _ _ hi]; rw [upd_ne _ _ _ _ hi] at e; exact hs i blk e ne
    · by_cases h : i = id
      · subst h
        rw [upd_same] at e
        cases hb : s.h i with
        | none => have := hnew hb; omega
        | some b => have := hver b hb; injection e with e; subst e; exact ⟨b, rfl, Nat.le_of_lt this, fun h => by have h' : b.ver = ver := h; omega⟩
      · rw [upd_ne _ _ _ _ h] at e; exact ⟨b', e, Nat.le_refl _, fun _ => ren_ne _ _ _ _ h⟩
  refine ⟨M, ⟨fun i hi b' e => ?_, fun i hi b' e ne => ?_, fun i hi => ?_, ⟨fun i b e ne => ?_, fun i j bi bj hi hj ni nj hij => ?_⟩, fun t => (I.tmps t).move M, I.ntmps, I.defers, ?_⟩⟩
  · have e' : upd s.h id ⟨ver, cs⟩ i = some b' := e
    by_cases h : i = id
    · subst h
      rw [upd_same] at e'
      injection e' with e'
      subst e'
      rw [ren_same]
      cases hb : s.h i with
      | none => have := hnew hb; omega
      | some b =>
        obtain ⟨b0, k0, k1⟩ := I.outer i hi b hb
        have h1 := k1.1
        have h2 := hver b hb
        refine ⟨b0, k0, ?_, .inr ⟨?_, fun _ => I.keeps.size⟩⟩ <;> simp only <;> omega
    · rw [upd_ne _ _ _ _ h] at e'
      rw [ren_ne _ _ _ _ h]
      exact I.outer i hi b' e'
  · have e' : upd s.h id ⟨ver, cs⟩ i = some b' := e
    by_cases h : i = id
    · subst h; rw [ren_same]; exact I.keeps.size
    · rw [upd_ne _ _ _ _ h] at e'; rw [ren_ne _ _ _ _ h]; exact I.fresh i hi b' e' ne
  · have hi' : C.b + n' ≤ i := hi
    show upd s.h id ⟨ver, cs⟩ i = none
    rw [upd_ne _ _ _ _ (by omega)]
    exact I.bound i (by omega)
  · have e' : upd s.h id ⟨ver, cs⟩ i = some b := e
    by_cases h : i = id
    · subst h
      rw [upd_same] at e'
      injection e' with e'
      subst e'
      rw [ren_same]
      exact ⟨V, ty, heap_alloc_at w _, hV, fun j d u hd hu => (hr j d u hd hu).move M⟩
    · rw [upd_ne _ _ _ _ h] at e'
      obtain ⟨c, ty', h1, h2, h3⟩ := I.heap.blk i b e' ne
      rw [ren_ne _ _ _ _ h]
      exact ⟨c, ty', (heap_alloc_old w _ _ (I.heap.lt e' ne)).trans h1, h2, fun j d u hd hu => (h3 j d u hd hu).move M⟩
  · have hi' : upd s.h id ⟨ver, cs⟩ i = some bi := hi
    have hj' : upd s.h id ⟨ver, cs⟩ j = some bj := hj
    by_cases h : i = id
    · by_cases h2 : j = id
      · rw [h, h2]
      · subst h
        rw [upd_ne _ _ _ _ h2] at hj'
        rw [ren_same, ren_ne _ _ _ _ h2] at hij
        have := I.heap.lt hj' nj
        omega
    · rw [upd_ne _ _ _ _ h] at hi'
      by_cases h2 : j = id
      · subst h2
        rw [ren_same, ren_ne _ _ _ _ h] at hij
        have := I.heap.lt hi' ni
        omega
      · rw [upd_ne _ _ _ _ h2] at hj'
        rw [ren_ne _ _ _ _ h, ren_ne _ _ _ _ h2] at hij
        exact I.heap.inj i j bi bj hi' hj' ni nj hij
  · refine ⟨by have := I.keeps.size; simp; omega, I.keeps.os, I.keeps.output, fun b hs hb => ?_⟩
    rw [heap_alloc_old w _ b (by have := I.keeps.size; omega)]
    exact I.keeps.old b hs hb

/-- a block is written -/
theorem Inv.write {C : Ctx} {ι : Nat → Nat} {s : St} {a : Act} {w : World} (I : Inv C ι s a w) (id : Nat) (b : Blk) (hb : s.h id = some b) (hne : b.cells ≠ []) (ver : Nat)
    (hver : b.ver ≤ ver) (cs : List Cell) (V : Array Value) (hl : cs.length = b.cells.length) (hV : V.size = cs.length)
    (hr : ∀ (j : Nat) (d : Cell) (u : Value), cs[j]? = some d → V[j]? = some u → RCell ι s.h (C.b + s.n) w d u) :
    Moves ι s.h (C.b + s.n) w ι (upd s.h id ⟨ver, cs⟩) (C.b + s.n) (w.setRow (ι id) V) ∧
    Inv C ι ⟨s.t, upd s.h id ⟨ver, cs⟩, s.n⟩ a (w.setRow (ι id) V) := by
  obtain ⟨c0, ty0, g1, g2, g3⟩ := I.heap.blk id b hb hne
  have hcs : cs ≠ [] := by intro h; rw [h] at hl; exact hne (List.eq_nil_of_length_eq_zero hl.symm)
  have hle : b.ver ≤ ver := hver
  have M : Moves ι s.h (C.b + s.n) w ι (upd s.h id ⟨ver, cs⟩) (C.b + s.n) (w.setRow (ι id) V) := by
    refine ⟨Nat.le_refl _, fun b' hs hb' i blk e ne => ?_, fun b' hs hb' => ?_, fun i hi b' e => ?_⟩
    · by_cases h : i = id
      · subst h; exact hs i b hb hne
      · rw [upd_ne _ _ _ _ h] at e; exact hs i blk e ne
    · exact setRow_other w _ _ V (fun e => hs id b hb hne e.symm)
    · by_cases h : i = id
      · subst h
        rw [upd_same] at e
        injection e with e; subst e; exact ⟨b, hb, hle, fun _ => rfl⟩
      · rw [upd_ne _ _ _ _ h] at e; exact ⟨b', e, Nat.le_refl _, fun _ => rfl⟩
  refine ⟨M, ⟨fun i hi b' e => ?_, fun i hi b' e ne => ?_, fun i hi => ?_, ⟨fun i b' e ne => ?_, fun i j bi bj hi hj ni nj hij => ?_⟩, fun t => (I.tmps t).move M, I.ntmps, I.defers, ?_⟩⟩
  · have e' : upd s.h id ⟨ver, cs⟩ i = some b' := e
    by_cases h : i = id
    · subst h
      rw [upd_same] at e'
      injection e' with e'; subst e'
      obtain ⟨b0, k0, k1⟩ := I.outer i hi b hb
      exact ⟨b0, k0, k1.trans (G' := C.w.heap.size) ⟨hver, .inl ⟨hl.symm, rfl⟩⟩ (Nat.le_refl _)⟩
    · rw [upd_ne _ _ _ _ h] at e'; exact I.outer i hi b' e'
  · have e' : upd s.h id ⟨ver, cs⟩ i = some b' := e
    by_cases h : i = id
    · subst h; exact I.fresh i hi b hb hne
    · rw [upd_ne _ _ _ _ h] at e'; exact I.fresh i hi b' e' ne
  · show upd s.h id ⟨ver, cs⟩ i = none
    have : i ≠ id := by intro h; subst h; rw [I.bound i hi] at hb; cases hb
    rw [upd_ne _ _ _ _ this]
    exact I.bound i hi
  · have e' : upd s.h id ⟨ver, cs⟩ i = some b' := e
    by_cases h : i = id
    · subst h
      rw [upd_same] at e'
      injection e' with e'
      subst e'
      exact ⟨V, ty0, setRow_heap w _ _ V ty0 _ g1, hV, fun j d u hd hu => (hr j d u hd hu).move M⟩
    · rw [upd_ne _ _ _ _ h] at e'
      obtain ⟨c, ty', h1, h2, h3⟩ := I.heap.blk i b' e' ne
      have hd : ι i ≠ ι id := fun hh => h (I.heap.inj i id b' b e' hb ne hne hh)
      exact ⟨c, ty', (setRow_other w _ _ V hd).trans h1, h2, fun j d u hd hu => (h3 j d u hd hu).move M⟩
  · have hi' : upd s.h id ⟨ver, cs⟩ i = some bi := hi
    have hj' : upd s.h id ⟨ver, cs⟩ j = some bj := hj
    have gi : ∃ b', s.h i = some b' ∧ b'.cells ≠ [] := by
      by_cases h : i = id
      · subst h; exact ⟨b, hb, hne⟩
      · rw [upd_ne _ _ _ _ h] at hi'; exact ⟨bi, hi', ni⟩
    have gj : ∃ b', s.h j = some b' ∧ b'.cells ≠ [] := by
      by_cases h : j = id
      · subst h; exact ⟨b, hb, hne⟩
      · rw [upd_ne _ _ _ _ h] at hj'; exact ⟨bj, hj', nj⟩
    obtain ⟨x, hx, nx⟩ := gi
    obtain ⟨y, hy, ny⟩ := gj
    exact I.heap.inj i j x y hx hy nx ny hij
  · refine ⟨by have := I.keeps.size; simpa using this, I.keeps.os, I.keeps.output, fun x hs hx => ?_⟩
    have hd : x ≠ ι id := by
      intro hh
      rcases Nat.lt_or_ge id C.b with h | h
      · obtain ⟨b0, k0, k1, k2⟩ := I.outer id h b hb
        rcases k2 with ⟨k2, k3⟩ | ⟨_, k3⟩
        · exact hs id b0 k0 (len_nil k2 hne) (by rw [← k3]; exact hh.symm)
        · have := k3 hne; omega
      · have := I.fresh id h b hb hne
        omega
    rw [setRow_other w _ _ V hd]
    exact I.keeps.old x hs hx

/-- nothing of the heap turns: draws alone -/
theorem Inv.drew {C : Ctx} {ι : Nat → Nat} {s : St} {a : Act} {w : World} (I : Inv C ι s a w) : Inv C ι s a w.drew := by
  have M : Moves ι s.h (C.b + s.n) w ι s.h (C.b + s.n) w.drew := .world (fun _ _ _ => rfl)
  refine ⟨I.outer, I.fresh, I.bound, ⟨fun id b e ne => ?_, I.heap.inj⟩, fun t => (I.tmps t).move M, I.ntmps, I.defers, ⟨I.keeps.size, I.keeps.os, I.keeps.output, I.keeps.old⟩⟩
  obtain ⟨c, ty, h1, h2, h3⟩ := I.heap.blk id b e ne
  exact ⟨c, ty, h1, h2, fun j d u hd hu => (h3 j d u hd hu).move M⟩

end Go.Proofs.YtengjcdilnikhaaDoor.Am
