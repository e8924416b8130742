/-
  The abstract machine: what is known of values and memory, and what it means of a world; The abstract machine: states, what code does to them, calls; The abstract machine: what happens to memory (a slot written, a block laid, a block written, a row moved).
-/
import Derived.Tactics
import Derived.KernelRfl
import Derived.CallsIn
import Derived.TacticsIn
import Derived.Laws.IdiomCopy
namespace Go.Proofs.YtengjcdilnikhaaDoor.Am
set_option linter.unusedSimpArgs false
set_option linter.unusedVariables false
set_option linter.unnecessarySimpa false
open Go

/-- pure data of one cell: an exact value, or a slice that can be read and is never written any more (slc: that has no room behind) -/
inductive PD
  | v (x : Value)
  | sl (sz : Nat) (es : List (List PD))
  | slc (sz : Nat) (es : List (List PD))

/-- what is known of one cell -/
inductive Cell
  | p (d : PD)
  | junk
  | ptr (id ver off : Nat)
  | ro (cs : List PD)
  | win (id ver off len cap : Nat)
  | clo (fn : Fn) (first cap : List Cell)

/-- what is known of a value -/
inductive AV
  | one (c : Cell)
  | agg (cs : List Cell)
  | tup (vs : List AV)

structure Blk where
  ver : Nat
  cells : List Cell

abbrev Heap := Nat → Option Blk

def upd (h : Heap) (id : Nat) (b : Blk) : Heap := fun i => if i = id then some b else h i

theorem upd_same (h : Heap) (id : Nat) (b : Blk) : upd h id b id = some b := by simp [upd]
theorem upd_ne (h : Heap) (id j : Nat) (b : Blk) (e : j ≠ id) : upd h id b j = h j := by simp [upd, e]

inductive RPD (S : Nat → Prop) (w : World) : PD → Value → Prop
  | v (x : Value) : RPD S w (.v x) x
  | sl {sz : Nat} {es : List (List PD)} (a : Option Addr) (cap : Nat) (U : Nat → Nat → Value)
      (hcap : es.length ≤ cap) (hnil : a = none → cap = 0)
      (hspot : ∀ A, a = some A → es = [] ∨ A.spot = none)
      (hsz : ∀ e ∈ es, e.length = sz)
      (hc : ∀ (i : Nat) (e : List PD), es[i]? = some e → ∀ (j : Nat) (d : PD), e[j]? = some d → ∃ A : Addr, a = some A ∧ S A.block ∧ w.cell? ⟨A.block, A.off + (i * sz + j), none⟩ = some (U i j))
      (hr : ∀ (i : Nat) (e : List PD), es[i]? = some e → ∀ (j : Nat) (d : PD), e[j]? = some d → RPD S w d (U i j)) :
      RPD S w (.sl sz es) (.slice a es.length cap)
  | slc {sz : Nat} {es : List (List PD)} {a : Option Addr} (h : RPD S w (.sl sz es) (.slice a es.length es.length)) : RPD S w (.slc sz es) (.slice a es.length es.length)

/-- two worlds agree on the blocks of a set -/
def AgreeOn (S : Nat → Prop) (w w' : World) : Prop := ∀ b, S b → b < w.heap.size → w'.heap[b]? = w.heap[b]?

theorem cell_lt {w : World} {a : Addr} {v : Value} (h : w.cell? a = some v) : a.block < w.heap.size := by
  unfold World.cell? at h
  rcases Nat.lt_or_ge a.block w.heap.size with h' | h'
  · exact h'
  · simp [Array.getElem?_eq_none h'] at h

theorem cell_same {w w' : World} {a : Addr} (h : w'.heap[a.block]? = w.heap[a.block]?) : w'.cell? a = w.cell? a := by
  unfold World.cell?
  rw [h]

theorem RPD.mono {S S' : Nat → Prop} {w w' : World} (hS : ∀ b, S b → b < w.heap.size → S' b) (ha : AgreeOn S w w') {d : PD} {v : Value} (h : RPD S w d v) : RPD S' w' d v := by
  induction h with
  | v x => exact .v x
  | @sl sz es a cap U hcap hnil hspot hsz hc hr ih =>
    refine .sl a cap U hcap hnil hspot hsz (fun i e he j d hd => ?_) ih
    obtain ⟨A, hA, hs, hcell⟩ := hc i e he j d hd
    have hlt := cell_lt hcell
    exact ⟨A, hA, hS _ hs hlt, (cell_same (a := ⟨A.block, _, none⟩) (ha _ hs hlt)).trans hcell⟩
  | slc h ih => exact .slc ih

/-- no living block of the abstract heap lies there -/
def stab (ι : Nat → Nat) (h : Heap) (b : Nat) : Prop := ∀ id blk, h id = some blk → blk.cells ≠ [] → ι id ≠ b

inductive RCell (ι : Nat → Nat) (h : Heap) (bd : Nat) (w : World) : Cell → Value → Prop
  | p {d : PD} {v : Value} (hd : RPD (stab ι h) w d v) : RCell ι h bd w (.p d) v
  | junk (v : Value) : RCell ι h bd w .junk v
  | ptr {id ver off : Nat} {v : Value} (hid : id < bd) (hver : ∀ blk, h id = some blk → ver ≤ blk.ver)
      (hv : ∀ blk, h id = some blk → blk.ver = ver → v = .pointer (some ⟨ι id, off, none⟩)) : RCell ι h bd w (.ptr id ver off) v
  | ro {cs : List PD} (A : Addr) (U : Nat → Value) (hs : A.spot = none)
      (hc : ∀ (j : Nat) (d : PD), cs[j]? = some d → stab ι h A.block ∧ w.cell? ⟨A.block, A.off + j, none⟩ = some (U j) ∧ RPD (stab ι h) w d (U j)) :
      RCell ι h bd w (.ro cs) (.pointer (some A))
  | win {id ver off len cap : Nat} {v : Value} (hid : id < bd) (hver : ∀ blk, h id = some blk → ver ≤ blk.ver)
      (hv : ∀ blk, h id = some blk → blk.ver = ver → len ≤ cap ∧ (v = .slice (some ⟨ι id, off, none⟩) len cap ∨ (v = .slice none 0 0 ∧ len = 0 ∧ cap = 0))) :
      RCell ι h bd w (.win id ver off len cap) v
  | clo {fn : Fn} {first cap : List Cell} (F C : List Value) (hF : F.length = first.length) (hC : C.length = cap.length)
      (h1 : ∀ (i : Nat) (c : Cell) (u : Value), first[i]? = some c → F[i]? = some u → RCell ι h bd w c u)
      (h2 : ∀ (i : Nat) (c : Cell) (u : Value), cap[i]? = some c → C[i]? = some u → RCell ι h bd w c u) :
      RCell ι h bd w (.clo fn first cap) (.func fn F.toArray C.toArray)

inductive RAV (ι : Nat → Nat) (h : Heap) (bd : Nat) (w : World) : AV → Value → Prop
  | one {c : Cell} {v : Value} (hc : RCell ι h bd w c v) : RAV ι h bd w (.one c) v
  | agg {cs : List Cell} (V : List Value) (hl : V.length = cs.length)
      (hv : ∀ (i : Nat) (c : Cell) (u : Value), cs[i]? = some c → V[i]? = some u → RCell ι h bd w c u) : RAV ι h bd w (.agg cs) (.agg V.toArray)
  | tup {vs : List AV} (V : List Value) (hl : V.length = vs.length)
      (hv : ∀ (i : Nat) (c : AV) (u : Value), vs[i]? = some c → V[i]? = some u → RAV ι h bd w c u) : RAV ι h bd w (.tup vs) (.tuple V.toArray)

structure HeapOK (ι : Nat → Nat) (h : Heap) (bd : Nat) (w : World) : Prop where
  blk : ∀ id b, h id = some b → b.cells ≠ [] → ∃ (c : Array Value) (e : TypeId), w.heap[ι id]? = some (.cells c e (0, 0)) ∧ c.size = b.cells.length ∧
    ∀ (j : Nat) (d : Cell) (u : Value), b.cells[j]? = some d → c[j]? = some u → RCell ι h bd w d u
  inj : ∀ i j bi bj, h i = some bi → h j = some bj → bi.cells ≠ [] → bj.cells ≠ [] → ι i = ι j → i = j

/-- what was there, and is none of the abstract heap's, is as it was -/
structure Keeps (ι : Nat → Nat) (h : Heap) (w w' : World) : Prop where
  size : w.heap.size ≤ w'.heap.size
  os : w'.os = w.os
  output : w'.output = w.output
  old : AgreeOn (stab ι h) w w'

theorem Keeps.refl (ι : Nat → Nat) (h : Heap) (w : World) : Keeps ι h w w := ⟨Nat.le_refl _, rfl, rfl, fun _ _ _ => rfl⟩

/-- the relation moves along -/
structure Moves (ι : Nat → Nat) (h : Heap) (bd : Nat) (w : World) (ι' : Nat → Nat) (h' : Heap) (bd' : Nat) (w' : World) : Prop where
  hbd : bd ≤ bd'
  stab : ∀ b, stab ι h b → b < w.heap.size → Am.stab ι' h' b
  agree : AgreeOn (Am.stab ι h) w w'
  blk : ∀ id, id < bd → ∀ b', h' id = some b' → ∃ b, h id = some b ∧ b.ver ≤ b'.ver ∧ (b.ver = b'.ver → ι' id = ι id)

theorem RCell.move {ι ι' : Nat → Nat} {h h' : Heap} {bd bd' : Nat} {w w' : World} (m : Moves ι h bd w ι' h' bd' w') {c : Cell} {v : Value} (r : RCell ι h bd w c v) : RCell ι' h' bd' w' c v := by
  induction r with
  | p hd => exact .p (hd.mono m.stab m.agree)
  | junk v => exact .junk v
  | @ptr id ver off v hid hver hv =>
    refine .ptr (Nat.lt_of_lt_of_le hid m.hbd) (fun b' hb' => ?_) (fun b' hb' e => ?_)
    · obtain ⟨b, hb, hle, _⟩ := m.blk id hid b' hb'
      exact Nat.le_trans (hver b hb) hle
    · obtain ⟨b, hb, hle, hi⟩ := m.blk id hid b' hb'
      have e1 : b.ver = ver := Nat.le_antisymm (e ▸ hle) (hver b hb)
      rw [hi (e1.trans e.symm)]
      exact hv b hb e1
  | @ro cs A U hs hc =>
    refine .ro A U hs (fun j d hd => ?_)
    obtain ⟨h1, h2, h3⟩ := hc j d hd
    have hlt := cell_lt h2
    exact ⟨m.stab _ h1 hlt, (cell_same (a := ⟨A.block, _, none⟩) (m.agree _ h1 hlt)).trans h2, h3.mono m.stab m.agree⟩
  | @win id ver off len cap v hid hver hv =>
    refine .win (Nat.lt_of_lt_of_le hid m.hbd) (fun b' hb' => ?_) (fun b' hb' e => ?_)
    · obtain ⟨b, hb, hle, _⟩ := m.blk id hid b' hb'
      exact Nat.le_trans (hver b hb) hle
    · obtain ⟨b, hb, hle, hi⟩ := m.blk id hid b' hb'
      have e1 : b.ver = ver := Nat.le_antisymm (e ▸ hle) (hver b hb)
      rw [hi (e1.trans e.symm)]
      exact hv b hb e1
  | clo F C hF hC h1 h2 ih1 ih2 => exact .clo F C hF hC ih1 ih2

theorem RAV.move {ι ι' : Nat → Nat} {h h' : Heap} {bd bd' : Nat} {w w' : World} (m : Moves ι h bd w ι' h' bd' w') {c : AV} {v : Value} (r : RAV ι h bd w c v) : RAV ι' h' bd' w' c v := by
  induction r with
  | one hc => exact .one (hc.move m)
  | agg V hl hv => exact .agg V hl (fun i c u hc hu => (hv i c u hc hu).move m)
  | tup V hl hv ih => exact .tup V hl ih

theorem Moves.refl (ι : Nat → Nat) (h : Heap) (bd : Nat) (w : World) : Moves ι h bd w ι h bd w :=
  ⟨Nat.le_refl _, fun _ s _ => s, fun _ _ _ => rfl, fun _ _ b' hb' => ⟨b', hb', Nat.le_refl _, fun _ => rfl⟩⟩

/-- the world moves, nothing of the abstract heap does -/
theorem Moves.world {ι : Nat → Nat} {h : Heap} {bd : Nat} {w w' : World} (a : AgreeOn (Am.stab ι h) w w') : Moves ι h bd w ι h bd w' :=
  ⟨Nat.le_refl _, fun _ s _ => s, a, fun _ _ b' hb' => ⟨b', hb', Nat.le_refl _, fun _ => rfl⟩⟩

/-- less is known of the heap -/
theorem Moves.less {ι : Nat → Nat} {h h' : Heap} {bd : Nat} {w : World} (l : ∀ id b, h' id = some b → h id = some b) : Moves ι h bd w ι h' bd w :=
  ⟨Nat.le_refl _, fun _ s _ id blk e n => s id blk (l _ _ e) n, fun _ _ _ => rfl, fun _ _ b' hb' => ⟨b', l _ _ hb', Nat.le_refl _, fun _ => rfl⟩⟩

theorem HeapOK.less {ι : Nat → Nat} {h h' : Heap} {bd : Nat} {w : World} (H : HeapOK ι h bd w) (l : ∀ id b, h' id = some b → h id = some b) : HeapOK ι h' bd w := by
  refine ⟨fun id b hb hn => ?_, fun i j bi bj hi hj => H.inj i j bi bj (l _ _ hi) (l _ _ hj)⟩
  obtain ⟨c, e, h1, h2, h3⟩ := H.blk id b (l _ _ hb) hn
  exact ⟨c, e, h1, h2, fun j d u hd hu => (h3 j d u hd hu).move (.less l)⟩

end Go.Proofs.YtengjcdilnikhaaDoor.Am

namespace Go.Proofs.YtengjcdilnikhaaDoor.Am
set_option linter.unusedSimpArgs false
set_option linter.unusedVariables false
set_option linter.unnecessarySimpa false
open Go

/-- what stands at the entry of a call: slots, the first own number, where the outer blocks lie, what is known of them, the world -/
structure Xt where
  D : List Deferred
  rd : Option Nat
  E : Act → World → Prop

/-- a plain call's: nothing is deferred, it is no round, it is left in no other way -/
abbrev x0 : Xt := ⟨[], none, fun _ _ => False⟩

structure Ctx where
  N : Nat
  b : Nat
  ι : Nat → Nat
  h : Heap
  w : World
  x : Xt

def Ctx.F (C : Ctx) : Fence := { Fence.wide with round := C.x.rd }
theorem Ctx.F_fn (C : Ctx) (f : FuncId) : C.F.fn f := trivial
theorem Ctx.F_room (C : Ctx) (n : Nat) : C.F.room n := fun _ h => by cases h
theorem Ctx.F_wide {C : Ctx} (h : C.x.rd = none) : C.F = Fence.wide := by unfold Ctx.F; rw [h]; rfl

structure St where
  t : Nat → AV
  h : Heap
  n : Nat

/-- what may become of an outer block: it stays in its place, or it went (its version tells) to a new one -/
def Went (G : Nat) (b0 b' : Blk) (p0 p' : Nat) : Prop := b0.ver ≤ b'.ver ∧ ((b0.cells.length = b'.cells.length ∧ p' = p0) ∨ (b0.ver < b'.ver ∧ (b'.cells ≠ [] → G ≤ p')))

theorem Went.refl (G : Nat) (b : Blk) (p : Nat) : Went G b b p p := ⟨Nat.le_refl _, .inl ⟨rfl, rfl⟩⟩

theorem len_nil {b0 b1 : Blk} (h : b0.cells.length = b1.cells.length) (n : b1.cells ≠ []) : b0.cells ≠ [] := fun hz => n (List.eq_nil_of_length_eq_zero (by rw [← h, hz]; rfl))

theorem Went.trans {G G' : Nat} {b0 b1 b2 : Blk} {p0 p1 p2 : Nat} (x : Went G b0 b1 p0 p1) (y : Went G' b1 b2 p1 p2) (hG : G ≤ G') : Went G b0 b2 p0 p2 := by
  obtain ⟨x1, x2⟩ := x
  obtain ⟨y1, y2⟩ := y
  refine ⟨Nat.le_trans x1 y1, ?_⟩
  rcases y2 with ⟨y2, y3⟩ | ⟨y2, y3⟩
  · rcases x2 with ⟨x2, x3⟩ | ⟨x2, x3⟩
    · exact .inl ⟨x2.trans y2, y3.trans x3⟩
    · exact .inr ⟨Nat.lt_of_lt_of_le x2 y1, fun h => by rw [y3]; exact x3 (len_nil y2 h)⟩
  · exact .inr ⟨Nat.lt_of_le_of_lt x1 y2, fun h => Nat.le_trans hG (y3 h)⟩

theorem Went.place {G : Nat} {b0 b' : Blk} {p0 p' : Nat} (x : Went G b0 b' p0 p') (e : b0.ver = b'.ver) : p' = p0 := by
  rcases x.2 with h | h
  · exact h.2
  · omega

structure Inv (C : Ctx) (ι : Nat → Nat) (s : St) (a : Act) (w : World) : Prop where
  outer : ∀ id, id < C.b → ∀ b', s.h id = some b' → ∃ b, C.h id = some b ∧ Went C.w.heap.size b b' (C.ι id) (ι id)
  fresh : ∀ id, C.b ≤ id → ∀ b', s.h id = some b' → b'.cells ≠ [] → C.w.heap.size ≤ ι id
  bound : ∀ id, C.b + s.n ≤ id → s.h id = none
  heap : HeapOK ι s.h (C.b + s.n) w
  tmps : ∀ t, RAV ι s.h (C.b + s.n) w (s.t t) (a.tmps.getD t undef)
  ntmps : a.tmps.size = C.N
  defers : a.defers = C.x.D
  keeps : Keeps C.ι C.h C.w w

def PostQ (C : Ctx) (Q : Exit → St → Prop) (e : Exit) (a' : Act) (w' : World) : Prop := (∃ s' ι', Q e s' ∧ Inv C ι' s' a' w') ∨ (e = .ret ∧ C.x.E a' w')

def AWP (P : Program) (C : Ctx) (c : Code) (Q : Exit → St → Prop) (s : St) : Prop :=
  ∀ a w ι, Inv C ι s a w → c.wpIn C.F 0 P (PostQ C Q) a w

def ofV : Value → AV
  | .agg cs => .agg (cs.toList.map fun v => .p (.v v))
  | v => .one (.p (.v v))

def val (t : Nat → AV) : Operand → AV
  | .tmp i => t i
  | .const v => ofV v
  | .global g => .one (.p (.v (.pointer (some ⟨g, 0, none⟩))))
  | .func f => .one (.clo (.func f) [] [])

theorem rav_v {ι : Nat → Nat} {h : Heap} {bd : Nat} {w : World} (v : Value) : RAV ι h bd w (.one (.p (.v v))) v := .one (.p (.v v))

theorem rav_ofV {ι : Nat → Nat} {h : Heap} {bd : Nat} {w : World} (v : Value) : RAV ι h bd w (ofV v) v := by
  cases v with
  | agg cs =>
    have : RAV ι h bd w (.agg (cs.toList.map fun v => .p (.v v))) (.agg cs.toList.toArray) := by
      refine .agg cs.toList (by simp) (fun i c u hc hu => ?_)
      rw [List.getElem?_map, hu] at hc
      simp at hc
      subst hc
      exact .p (.v u)
    simpa [ofV] using this
  | _ => exact rav_v _

theorem val_ok {C : Ctx} {ι : Nat → Nat} {s : St} {a : Act} {w : World} (I : Inv C ι s a w) (x : Operand) : RAV ι s.h (C.b + s.n) w (val s.t x) (a.eval x) := by
  cases x with
  | tmp t => exact I.tmps t
  | const v => exact rav_ofV v
  | global g => exact rav_v _
  | func f => exact .one (.clo (fn := .func f) (first := []) (cap := []) [] [] rfl rfl (fun _ _ _ h => by simp at h) (fun _ _ _ h => by simp at h))

theorem rav_v_inv {ι : Nat → Nat} {h : Heap} {bd : Nat} {w : World} {x v : Value} (r : RAV ι h bd w (.one (.p (.v x))) v) : v = x := by
  cases r with
  | one hc => cases hc with | p hd => cases hd with | v => rfl

/-- what stands behind an ending: on, or out -/
def thn (K : St → Prop) (Q : Exit → St → Prop) : Exit → St → Prop
  | .normal, s => K s
  | e, s => Q e s

def inBlk (id : Nat) (Q : Exit → St → Prop) : Exit → St → Prop
  | .exit id', s => if id' = id then Q .normal s else Q (.exit id') s
  | e, s => Q e s

section rules
variable {P : Program} {C : Ctx} {Q : Exit → St → Prop} {s : St}

theorem AWP.mono {c : Code} {Q' : Exit → St → Prop} (h : AWP P C c Q s) (hq : ∀ e s, Q e s → Q' e s) : AWP P C c Q' s :=
  fun a w ι I => wpIn_mono (h a w ι I) fun _ _ _ q => q.imp (fun ⟨s', ι', q, I'⟩ => ⟨s', ι', hq _ _ q, I'⟩) id

theorem AWP.weak {c : Code} {s' : St} (hw : ∀ a w ι, Inv C ι s a w → ∃ ι', Inv C ι' s' a w) (h : AWP P C c Q s') : AWP P C c Q s :=
  fun a w ι I => let ⟨ι', I'⟩ := hw a w ι I; h a w ι' I'

theorem AWP.of_wp {c : Code} (hr : C.x.rd = none) (h : ∀ a w ι, Inv C ι s a w → c.wp P (fun e a' w' => ∃ s' ι', Q e s' ∧ Inv C ι' s' a' w') a w) : AWP P C c Q s :=
  fun a w ι I => by rw [Ctx.F_wide hr]; exact wpIn_wide.2 (wp_mono (h a w ι I) fun _ _ _ q => .inl q)

theorem AWP.skip (h : Q .normal s) : AWP P C .skip Q s := fun _ _ ι I => wpIn_skip (.inl ⟨s, ι, h, I⟩)
theorem AWP.ret (h : Q .ret s) : AWP P C .ret Q s := fun _ _ ι I => wpIn_ret (.inl ⟨s, ι, h, I⟩)
theorem AWP.exit {id : Nat} (h : Q (.exit id) s) : AWP P C (.exit id) Q s := fun _ _ ι I => wpIn_exit (.inl ⟨s, ι, h, I⟩)
theorem AWP.label {l : Nat} (h : Q .normal s) : AWP P C (.label l) Q s := fun _ _ ι I => wpIn_label (.inl ⟨s, ι, h, I⟩)

theorem AWP.seq {x y : Code} (h : AWP P C x (thn (AWP P C y Q) Q) s) : AWP P C (.seq x y) Q s := by
  intro a w ι I
  refine wpIn_seq (wpIn_mono (h a w ι I) ?_)
  rintro e a' w' (⟨s', ι', q, I'⟩ | ⟨rfl, he⟩)
  · cases e <;> first | exact q a' w' ι' I' | exact .inl ⟨s', ι', q, I'⟩
  · exact .inr ⟨rfl, he⟩

theorem AWP.block {id : Nat} {c : Code} (h : AWP P C c (inBlk id Q) s) : AWP P C (.block id c) Q s := by
  intro a w ι I
  refine wpIn_block (wpIn_mono (h a w ι I) ?_)
  rintro e a' w' (⟨s', ι', q, I'⟩ | ⟨rfl, he⟩)
  · cases e with
    | exit id' =>
      simp only [Exit.inBlock]
      simp only [inBlk] at q
      split
      · rename_i e; rw [if_pos e] at q; exact .inl ⟨s', ι', q, I'⟩
      · rename_i e; rw [if_neg e] at q; exact .inl ⟨s', ι', q, I'⟩
    | _ => exact .inl ⟨s', ι', q, I'⟩
  · exact .inr ⟨rfl, he⟩

theorem AWP.cond {c : Operand} {x y : Code} {t : Bool} (hc : val s.t c = .one (.p (.v (.bool t)))) (ht : t = true → AWP P C x Q s) (hf : t = false → AWP P C y Q s) :
    AWP P C (.cond c x y) Q s := by
  intro a w ι I
  have hv := val_ok I c
  rw [hc] at hv
  exact wpIn_cond_split (rav_v_inv hv) (fun e => ht e a w ι I) (fun e => hf e a w ι I)

end rules

/-! ### only low numbers -/
mutual
def lowC (m : Nat) : Cell → Bool
  | .p _ | .junk | .ro _ => true
  | .ptr id _ _ | .win id _ _ _ _ => decide (id < m)
  | .clo _ f c => lowCs m f && lowCs m c
def lowCs (m : Nat) : List Cell → Bool
  | [] => true
  | c :: cs => lowC m c && lowCs m cs
end

theorem lowCs_mem {m : Nat} {cs : List Cell} (h : lowCs m cs = true) : ∀ c ∈ cs, lowC m c = true := by
  induction cs with
  | nil => intro c hc; cases hc
  | cons x xs ih =>
    simp only [lowCs, Bool.and_eq_true] at h
    intro c hc
    cases hc with
    | head => exact h.1
    | tail _ hc => exact ih h.2 c hc

theorem lowCs_of {m : Nat} {cs : List Cell} (h : ∀ c ∈ cs, lowC m c = true) : lowCs m cs = true := by
  induction cs with
  | nil => rfl
  | cons x xs ih => simp only [lowCs, Bool.and_eq_true]; exact ⟨h x (by simp), ih fun c hc => h c (by simp [hc])⟩

def cutC (m : Nat) (c : Cell) : Cell := if lowC m c then c else .junk

def cutV (m : Nat) : AV → AV
  | .one c => .one (cutC m c)
  | .agg cs => .agg (cs.map (cutC m))
  | .tup _ => .one .junk

def cutH (m : Nat) (h : Heap) : Heap := fun id => if id < m then (h id).map (fun b => ⟨b.ver, b.cells.map (cutC m)⟩) else none

def St.cut (C : Ctx) (n : Nat) (s : St) : St := ⟨fun t => cutV (C.b + n) (s.t t), cutH (C.b + n) s.h, n⟩

theorem cutH_some {m : Nat} {h : Heap} {id : Nat} {b' : Blk} (e : cutH m h id = some b') : id < m ∧ ∃ b, h id = some b ∧ b' = ⟨b.ver, b.cells.map (cutC m)⟩ := by
  unfold cutH at e
  split at e
  · rename_i hlt
    cases hb : h id with
    | none => rw [hb] at e; simp at e
    | some b => rw [hb] at e; simp at e; exact ⟨hlt, b, rfl, e.symm⟩
  · simp at e

theorem stab_cut {ι : Nat → Nat} {m : Nat} {h : Heap} {b : Nat} (s : stab ι h b) : stab ι (cutH m h) b := by
  intro id blk e hn
  obtain ⟨_, b0, h0, rfl⟩ := cutH_some e
  exact s id b0 h0 (by intro hh; apply hn; simp [hh])

theorem RCell.cutTo {ι : Nat → Nat} {h : Heap} {bd : Nat} {w : World} {m : Nat} {c : Cell} {v : Value} (r : RCell ι h bd w c v) (hl : lowC m c = true) : RCell ι (cutH m h) m w c v := by
  induction r with
  | p hd => exact .p (hd.mono (fun b s _ => stab_cut s) (fun _ _ _ => rfl))
  | junk v => exact .junk v
  | @ptr id ver off v hid hver hv =>
    simp only [lowC, decide_eq_true_eq] at hl
    refine .ptr hl (fun b' e => ?_) (fun b' e e2 => ?_)
    · obtain ⟨_, b0, h0, rfl⟩ := cutH_some e; exact hver b0 h0
    · obtain ⟨_, b0, h0, rfl⟩ := cutH_some e; exact hv b0 h0 e2
  | @ro cs A U hs hc =>
    refine .ro A U hs (fun j d hd => ?_)
    obtain ⟨h1, h2, h3⟩ := hc j d hd
    exact ⟨stab_cut h1, h2, h3.mono (fun b s _ => stab_cut s) (fun _ _ _ => rfl)⟩
  | @win id ver off len cap v hid hver hv =>
    simp only [lowC, decide_eq_true_eq] at hl
    refine .win hl (fun b' e => ?_) (fun b' e e2 => ?_)
    · obtain ⟨_, b0, h0, rfl⟩ := cutH_some e; exact hver b0 h0
    · obtain ⟨_, b0, h0, rfl⟩ := cutH_some e; exact hv b0 h0 e2
  | clo F C' hF hC h1 h2 ih1 ih2 =>
    simp only [lowC, Bool.and_eq_true] at hl
    exact .clo F C' hF hC (fun i c u hc hu => ih1 i c u hc hu (lowCs_mem hl.1 c (List.mem_of_getElem? hc))) (fun i c u hc hu => ih2 i c u hc hu (lowCs_mem hl.2 c (List.mem_of_getElem? hc)))

theorem RCell.cutC {ι : Nat → Nat} {h : Heap} {bd : Nat} {w : World} (m : Nat) {c : Cell} {v : Value} (r : RCell ι h bd w c v) : RCell ι (cutH m h) m w (Am.cutC m c) v := by
  unfold Am.cutC
  split
  · rename_i hl; exact r.cutTo hl
  · exact .junk v

theorem RAV.cutV {ι : Nat → Nat} {h : Heap} {bd : Nat} {w : World} (m : Nat) {c : AV} {v : Value} (r : RAV ι h bd w c v) : RAV ι (cutH m h) m w (Am.cutV m c) v := by
  cases r with
  | one hc => exact .one (hc.cutC m)
  | agg V hl hv =>
    refine .agg V (by simp [hl]) (fun i c u hc hu => ?_)
    rw [List.getElem?_map] at hc
    cases h0 : (_ : List Cell)[i]? with
    | none => rw [h0] at hc; simp at hc
    | some d => rw [h0] at hc; simp at hc; subst hc; exact (hv i d u h0 hu).cutC m
  | tup V hl hv => exact .one (.junk _)

theorem HeapOK.cut {ι : Nat → Nat} {h : Heap} {bd : Nat} {w : World} (m : Nat) (H : HeapOK ι h bd w) : HeapOK ι (cutH m h) m w := by
  refine ⟨fun id b' e hn => ?_, fun i j bi bj hi hj ni nj => ?_⟩
  · obtain ⟨_, b, hb, rfl⟩ := cutH_some e
    obtain ⟨c, ty, h1, h2, h3⟩ := H.blk id b hb (by intro hh; apply hn; simp [hh])
    refine ⟨c, ty, h1, by simp [h2], fun j d u hd hu => ?_⟩
    simp only [List.getElem?_map] at hd
    cases h0 : b.cells[j]? with
    | none => rw [h0] at hd; simp at hd
    | some d0 => rw [h0] at hd; simp at hd; subst hd; exact (h3 j d0 u h0 hu).cutC m
  · obtain ⟨_, b, hb, rfl⟩ := cutH_some hi
    obtain ⟨_, b2, hb2, rfl⟩ := cutH_some hj
    exact H.inj i j b b2 hb hb2 (by intro hh; apply ni; simp [hh]) (by intro hh; apply nj; simp [hh])

set_option linter.unusedVariables false in
theorem Inv.cut {C : Ctx} {ι : Nat → Nat} {s : St} {a : Act} {w : World} (I : Inv C ι s a w) (n : Nat) (hn : n ≤ s.n) : Inv C ι (s.cut C n) a w where
  outer id hid b' e := by
    obtain ⟨_, b, hb, rfl⟩ := cutH_some e
    obtain ⟨b0, h0, h1, h2⟩ := I.outer id hid b hb
    refine ⟨b0, h0, h1, ?_⟩
    rcases h2 with ⟨h2, h3⟩ | ⟨h2, h3⟩
    · exact .inl ⟨by simp [h2], h3⟩
    · exact .inr ⟨h2, fun hn => h3 (by intro hh; apply hn; simp [hh])⟩
  fresh id hid b' e hne := by
    obtain ⟨_, b, hb, rfl⟩ := cutH_some e
    exact I.fresh id hid b hb (by intro hh; apply hne; simp [hh])
  bound id hid := by
    simp only [St.cut] at hid ⊢
    unfold cutH
    rw [if_neg (by omega)]
  heap := I.heap.cut _
  tmps t := (I.tmps t).cutV _
  ntmps := I.ntmps
  defers := I.defers
  keeps := I.keeps

theorem AWP.loop {P : Program} {C : Ctx} {Q : Exit → St → Prop} {s : St} {c : Code} (I : St → Prop) (μ : St → Nat) (n : Nat) (hn : s.n = n) (h0 : I s)
    (round : ∀ s, I s → s.n = n → AWP P C c (thn (fun s' => n ≤ s'.n ∧ I (s'.cut C n) ∧ μ (s'.cut C n) < μ s) Q) s) : AWP P C (.loop c) Q s := by
  intro a w ι hI b k cs hro hb hr
  have key : ∀ m s a w ι, μ s = m → I s → s.n = n → Inv C ι s a w →
      ∃ e a' w', PostQ C Q e a' w' ∧ ArrivesIn (Machine.fenced P C.F) P (lone (b.atR a (.code c :: .inLoop c :: k)) cs w) b k cs e a' w' := by
    intro m
    induction m using Nat.strongRecOn with
    | _ m ih =>
      intro s a w ι hm hs hsn hinv
      obtain ⟨e, a₁, w₁, hq, harr⟩ := round s hs hsn a w ι hinv b (.inLoop c :: k) cs hro hb hr
      rcases hq with ⟨s₁, ι₁, hq, hinv₁⟩ | ⟨rfl, he⟩
      · cases e with
        | normal =>
          obtain ⟨hle, hI₁, hlt⟩ := hq
          obtain ⟨e₂, a₂, w₂, hq₂, harr₂⟩ := ih (μ (s₁.cut C n)) (hm ▸ hlt) (s₁.cut C n) a₁ w₁ ι₁ rfl hI₁ rfl (hinv₁.cut n hle)
          exact ⟨e₂, a₂, w₂, hq₂, .of_steps (StepsIn.trans harr (.one (fenced_calm hb hr rfl) stepR_inLoop)) harr₂⟩
        | exit id => exact ⟨_, a₁, w₁, .inl ⟨s₁, ι₁, hq, hinv₁⟩, .pass (x := .inLoop c) rfl (fun _ _ => .inl (by simp)) harr⟩
        | goto l => exact ⟨_, a₁, w₁, .inl ⟨s₁, ι₁, hq, hinv₁⟩, .pass (x := .inLoop c) rfl (fun _ _ => .inl (by simp)) harr⟩
        | ret => exact ⟨_, a₁, w₁, .inl ⟨s₁, ι₁, hq, hinv₁⟩, .pass (x := .inLoop c) rfl (fun _ _ => .inl (by simp)) harr⟩
        | panic ch => exact ⟨_, a₁, w₁, .inl ⟨s₁, ι₁, hq, hinv₁⟩, .pass (x := .inLoop c) rfl (fun _ _ => .inl (by simp)) harr⟩
        | outgrown => exact ⟨_, a₁, w₁, .inl ⟨s₁, ι₁, hq, hinv₁⟩, .pass (x := .inLoop c) rfl (fun _ _ => .inl (by simp)) harr⟩
      · exact ⟨_, a₁, w₁, .inr ⟨rfl, he⟩, .pass (x := .inLoop c) rfl (fun _ _ => .inl (by simp)) harr⟩
  obtain ⟨e, a', w', hq, harr⟩ := key _ s a w ι rfl h0 hn hI
  exact ⟨e, a', w', hq, .of_steps (.one (fenced_calm hb hr rfl) stepR_loop) harr⟩

/-! ### calls -/
/-- behind a call: at (h', ι', w'), m new numbers -/
structure Post (ι : Nat → Nat) (h : Heap) (b : Nat) (w : World) (m : Nat) (ι' : Nat → Nat) (h' : Heap) (w' : World) : Prop where
  outer : ∀ id, id < b → ∀ b', h' id = some b' → ∃ b0, h id = some b0 ∧ Went w.heap.size b0 b' (ι id) (ι' id)
  fresh : ∀ id, b ≤ id → ∀ b', h' id = some b' → b'.cells ≠ [] → w.heap.size ≤ ι' id
  bound : ∀ id, b + m ≤ id → h' id = none
  heap : HeapOK ι' h' (b + m) w'
  keeps : Keeps ι h w w'

def RAVs (ι : Nat → Nat) (h : Heap) (bd : Nat) (w : World) (as : List AV) (vs : List Value) : Prop :=
  vs.length = as.length ∧ ∀ (i : Nat) (c : AV) (u : Value), as[i]? = some c → vs[i]? = some u → RAV ι h bd w c u

/-- called with these arguments, over such a heap (its numbers below b), it returns, and R holds of what is returned, and of the heap, with m new numbers -/
def ACalls (P : Program) (f : FuncId) (args : List AV) (h : Heap) (b m : Nat) (R : AV → Heap → Prop) : Prop :=
  ∀ ι w vs, (∀ id, b ≤ id → h id = none) → HeapOK ι h b w → RAVs ι h b w args vs →
    Calls P f vs.toArray w fun e w' => ∃ v r h' ι', e = .returned v ∧ R r h' ∧ Post ι h b w m ι' h' w' ∧ RAV ι' h' (b + m) w' r v

theorem ACalls.mono {P : Program} {f : FuncId} {args : List AV} {h : Heap} {b m : Nat} {R R' : AV → Heap → Prop} (c : ACalls P f args h b m R) (hr : ∀ r h', R r h' → R' r h') : ACalls P f args h b m R' :=
  fun ι w vs hb hh ha => (c ι w vs hb hh ha).mono fun _ _ ⟨v, r, h', ι', he, hR, hp, hv⟩ => ⟨v, r, h', ι', he, hr r h' hR, hp, hv⟩

/-- as the call ends: what the results are -/
def resOf (t : Nat → AV) : List ResultVar → Option AV
  | [.tmp i] => some (t i)
  | [.tmp i, .tmp j] => some (.tup [t i, t j])
  | [.tmp i, .tmp j, .tmp k] => some (.tup [t i, t j, t k])
  | _ => none

/-- what must hold as a body ends -/
def Ends (P : Program) (C : Ctx) (fn : Func) (m : Nat) (R : AV → Heap → Prop) (s : St) : Prop :=
  ∀ a w ι, Inv C ι s a w → ∃ v r h' ι', (results fn a.tmps).run P w = .ok v w ∧ R r h' ∧ Post C.ι C.h C.b C.w m ι' h' w ∧ RAV ι' h' (C.b + m) w r v

def bodyQ (P : Program) (C : Ctx) (fn : Func) (m : Nat) (R : AV → Heap → Prop) : Exit → St → Prop
  | .normal, s | .ret, s => Ends P C fn m R s
  | _, _ => False

def argsT (args : List AV) : Nat → AV := fun i => args.getD i (.one .junk)

theorem Inv.entry {N : Nat} {args : List AV} {h : Heap} {b : Nat} {ι : Nat → Nat} {w : World} {vs : List Value} (hn : args.length ≤ N) (hbd : ∀ id, b ≤ id → h id = none) (hh : HeapOK ι h b w) (ha : RAVs ι h b w args vs) :
    Inv ⟨N, b, ι, h, w, x0⟩ ι ⟨argsT args, h, 0⟩ { tmps := vs.toArray ++ Array.replicate (N - vs.toArray.size) undef, defers := [] } w := by
  refine ⟨fun id _ b' e => ⟨b', e, .refl _ _ _⟩, fun id hid b' e hne => ?_, fun id hid => hbd id (by simpa using hid), by simpa using hh, fun t => ?_, ?_, rfl, .refl _ _ _⟩
  · have e1 : h id = some b' := e
    rw [hbd id hid] at e1; cases e1
  · show RAV ι h (b + 0) w (argsT args t) _
    obtain ⟨hl, hv⟩ := ha
    rcases Nat.lt_or_ge t args.length with hlt | hge
    · have e1 : args[t]? = some (args[t]) := List.getElem?_eq_getElem hlt
      have e2 : vs[t]? = some (vs[t]'(hl ▸ hlt)) := List.getElem?_eq_getElem (hl ▸ hlt)
      have := hv t _ _ e1 e2
      have e3 : argsT args t = args[t] := by simp [argsT, List.getD, e1]
      have e4 : (vs.toArray ++ Array.replicate (N - vs.toArray.size) undef).getD t undef = vs[t]'(hl ▸ hlt) := by
        simp [Array.getD, hl, hlt]
        omega
      rw [e3, e4]
      exact this
    · have e3 : argsT args t = .one .junk := by simp [argsT, List.getD, List.getElem?_eq_none hge]
      rw [e3]
      exact .one (.junk _)
  · have hl := ha.1
    simp; omega

theorem ACalls.enter {P : Program} {f : FuncId} {fn : Func} {c : Code} {args : List AV} {h : Heap} {b m : Nat} {R : AV → Heap → Prop}
    (hf : P.funcs[f]? = some fn) (hb : fn.body = some c) (hn : args.length ≤ fn.ntmps)
    (hw : ∀ (ι : Nat → Nat) (w : World), (∀ id, b ≤ id → h id = none) → HeapOK ι h b w → AWP P ⟨fn.ntmps, b, ι, h, w, x0⟩ c (bodyQ P ⟨fn.ntmps, b, ι, h, w, x0⟩ fn m R) ⟨argsT args, h, 0⟩) : ACalls P f args h b m R := by
  intro ι w vs hbd hh ha
  refine calls_of_wp hf hb ?_
  have I := Inv.entry (N := fn.ntmps) hn hbd hh ha
  refine wp_mono (wpIn_wide.1 (hw ι w hbd hh _ w ι I)) ?_
  rintro e a' w' (⟨s', ι', q, I'⟩ | ⟨_, he⟩)
  case inr => exact he.elim
  cases e <;> first | exact q.elim | skip
  all_goals
    obtain ⟨v, r, h', ι2, hr, hR, hp, hv⟩ := q a' w' ι' I'
    exact ⟨I'.defers, v, hr, v, r, h', ι2, rfl, hR, hp, hv⟩

end Go.Proofs.YtengjcdilnikhaaDoor.Am

namespace Go.Proofs.YtengjcdilnikhaaDoor.Am
set_option linter.unusedSimpArgs false
set_option linter.unusedVariables false
set_option linter.unnecessarySimpa false
open Go

def updT (t : Nat → AV) (d : Nat) (v : AV) : Nat → AV := fun i => if i = d then v else t i

theorem updT_same (t : Nat → AV) (d : Nat) (v : AV) : updT t d v d = v := by simp [updT]
theorem updT_ne (t : Nat → AV) (d i : Nat) (v : AV) (e : i ≠ d) : updT t d v i = t i := by simp [updT, e]

def putT (t : Nat → AV) (d : Option Tmp) (v : AV) : Nat → AV :=
  match d with
  | some d => updT t d v
  | none => t

def dstOK (N : Nat) (d : Option Tmp) : Prop :=
  match d with
  | some d => d < N
  | none => True

theorem Inv.put {C : Ctx} {ι : Nat → Nat} {s : St} {a : Act} {w : World} (I : Inv C ι s a w) {d : Option Tmp} (hd : dstOK C.N d) {av : AV} {v : Value} (r : RAV ι s.h (C.b + s.n) w av v) :
    Inv C ι ⟨putT s.t d av, s.h, s.n⟩ (a.put d v) w := by
  cases d with
  | none => exact I
  | some d =>
    refine ⟨I.outer, I.fresh, I.bound, I.heap, fun t => ?_, by simpa [Act.put] using I.ntmps, I.defers, I.keeps⟩
    have hlt : d < a.tmps.size := by rw [I.ntmps]; exact hd
    show RAV ι s.h (C.b + s.n) w (updT s.t d av t) ((a.tmps.setIfInBounds d v).getD t undef)
    by_cases e : t = d
    · subst e
      rw [updT_same]
      have : (a.tmps.setIfInBounds t v).getD t undef = v := by simp [Array.getD, hlt]
      rw [this]; exact r
    · rw [updT_ne _ _ _ _ e]
      have : (a.tmps.setIfInBounds d v).getD t undef = a.tmps.getD t undef := by
        simp only [Array.getD_eq_getD_getElem?, Array.getElem?_setIfInBounds]
        rw [if_neg (fun h => e h.symm)]
      rw [this]; exact I.tmps t

def ren (ι : Nat → Nat) (id g : Nat) : Nat → Nat := fun i => if i = id then g else ι i

theorem ren_same (ι : Nat → Nat) (id g : Nat) : ren ι id g id = g := by simp [ren]
theorem ren_ne (ι : Nat → Nat) (id g i : Nat) (e : i ≠ id) : ren ι id g i = ι i := by simp [ren, e]

/-- the blocks of the abstract heap lie in the world -/
theorem HeapOK.lt {ι : Nat → Nat} {h : Heap} {bd : Nat} {w : World} (H : HeapOK ι h bd w) {id : Nat} {b : Blk} (e : h id = some b) (n : b.cells ≠ []) : ι id < w.heap.size := by
  obtain ⟨c, ty, h1, _⟩ := H.blk id b e n
  rcases Nat.lt_or_ge (ι id) w.heap.size with h' | h'
  · exact h'
  · rw [Array.getElem?_eq_none h'] at h1; cases h1

theorem heap_alloc_old (w : World) (o : Obj) (b : Nat) (hb : b < w.heap.size) : (w.alloc o).heap[b]? = w.heap[b]? := by
  simp only [World.alloc, Array.getElem?_push]
  rw [if_neg (by omega)]

theorem heap_alloc_at (w : World) (o : Obj) : (w.alloc o).heap[w.heap.size]? = some o := by
  show (w.heap.push o)[w.heap.size]? = some o
  simp

/-- a block moves or is laid: number id is at a new place -/
theorem Inv.place {C : Ctx} {ι : Nat → Nat} {s : St} {a : Act} {w : World} (I : Inv C ι s a w) (id n' : Nat) (hn : s.n ≤ n') (hhi : id < C.b + n') (ver : Nat)
    (hver : ∀ b, s.h id = some b → b.ver < ver) (hnew : s.h id = none → C.b + s.n ≤ id) (cs : List Cell) (V : Array Value) (ty : TypeId) (hV : V.size = cs.length)
    (hr : ∀ (j : Nat) (d : Cell) (u : Value), cs[j]? = some d → V[j]? = some u → RCell ι s.h (C.b + s.n) w d u) :
    Moves ι s.h (C.b + s.n) w (ren ι id w.heap.size) (upd s.h id ⟨ver, cs⟩) (C.b + n') (w.alloc (.cells V ty)) ∧
    Inv C (ren ι id w.heap.size) ⟨s.t, upd s.h id ⟨ver, cs⟩, n'⟩ a (w.alloc (.cells V ty)) := by
  have M : Moves ι s.h (C.b + s.n) w (ren ι id w.heap.size) (upd s.h id ⟨ver, cs⟩) (C.b + n') (w.alloc (.cells V ty)) := by
    refine ⟨by omega, fun b hs hb i blk e ne => ?_, fun b _ hb => heap_alloc_old w _ b hb, fun i hi b' e => ?_⟩
    · by_cases hi : i = id
      · subst hi; rw [ren_same]; omega
      · rw [ren_ne _ _ _ _ hi]; rw [upd_ne _ _ _ _ hi] at e; exact hs i blk e ne
    · by_cases h : i = id
      · subst h
        rw [upd_same] at e
        cases hb : s.h i with
        | none => have := hnew hb; omega
        | some b => have := hver b hb; injection e with e; subst e; exact ⟨b, rfl, Nat.le_of_lt this, fun h => by have h' : b.ver = ver := h; omega⟩
      · rw [upd_ne _ _ _ _ h] at e; exact ⟨b', e, Nat.le_refl _, fun _ => ren_ne _ _ _ _ h⟩
  refine ⟨M, ⟨fun i hi b' e => ?_, fun i hi b' e ne => ?_, fun i hi => ?_, ⟨fun i b e ne => ?_, fun i j bi bj hi hj ni nj hij => ?_⟩, fun t => (I.tmps t).move M, I.ntmps, I.defers, ?_⟩⟩
  · have e' : upd s.h id ⟨ver, cs⟩ i = some b' := e
    by_cases h : i = id
    · subst h
      rw [upd_same] at e'
      injection e' with e'
      subst e'
      rw [ren_same]
      cases hb : s.h i with
      | none => have := hnew hb; omega
      | some b =>
        obtain ⟨b0, k0, k1⟩ := I.outer i hi b hb
        have h1 := k1.1
        have h2 := hver b hb
        refine ⟨b0, k0, ?_, .inr ⟨?_, fun _ => I.keeps.size⟩⟩ <;> simp only <;> omega
    · rw [upd_ne _ _ _ _ h] at e'
      rw [ren_ne _ _ _ _ h]
      exact I.outer i hi b' e'
  · have e' : upd s.h id ⟨ver, cs⟩ i = some b' := e
    by_cases h : i = id
    · subst h; rw [ren_same]; exact I.keeps.size
    · rw [upd_ne _ _ _ _ h] at e'; rw [ren_ne _ _ _ _ h]; exact I.fresh i hi b' e' ne
  · have hi' : C.b + n' ≤ i := hi
    show upd s.h id ⟨ver, cs⟩ i = none
    rw [upd_ne _ _ _ _ (by omega)]
    exact I.bound i (by omega)
  · have e' : upd s.h id ⟨ver, cs⟩ i = some b := e
    by_cases h : i = id
    · subst h
      rw [upd_same] at e'
      injection e' with e'
      subst e'
      rw [ren_same]
      exact ⟨V, ty, heap_alloc_at w _, hV, fun j d u hd hu => (hr j d u hd hu).move M⟩
    · rw [upd_ne _ _ _ _ h] at e'
      obtain ⟨c, ty', h1, h2, h3⟩ := I.heap.blk i b e' ne
      rw [ren_ne _ _ _ _ h]
      exact ⟨c, ty', (heap_alloc_old w _ _ (I.heap.lt e' ne)).trans h1, h2, fun j d u hd hu => (h3 j d u hd hu).move M⟩
  · have hi' : upd s.h id ⟨ver, cs⟩ i = some bi := hi
    have hj' : upd s.h id ⟨ver, cs⟩ j = some bj := hj
    by_cases h : i = id
    · by_cases h2 : j = id
      · rw [h, h2]
      · subst h
        rw [upd_ne _ _ _ _ h2] at hj'
        rw [ren_same, ren_ne _ _ _ _ h2] at hij
        have := I.heap.lt hj' nj
        omega
    · rw [upd_ne _ _ _ _ h] at hi'
      by_cases h2 : j = id
      · subst h2
        rw [ren_same, ren_ne _ _ _ _ h] at hij
        have := I.heap.lt hi' ni
        omega
      · rw [upd_ne _ _ _ _ h2] at hj'
        rw [ren_ne _ _ _ _ h, ren_ne _ _ _ _ h2] at hij
        exact I.heap.inj i j bi bj hi' hj' ni nj hij
  · refine ⟨by have := I.keeps.size; simp; omega, I.keeps.os, I.keeps.output, fun b hs hb => ?_⟩
    rw [heap_alloc_old w _ b (by have := I.keeps.size; omega)]
    exact I.keeps.old b hs hb

/-- a block is written -/
theorem Inv.write {C : Ctx} {ι : Nat → Nat} {s : St} {a : Act} {w : World} (I : Inv C ι s a w) (id : Nat) (b : Blk) (hb : s.h id = some b) (hne : b.cells ≠ []) (ver : Nat)
    (hver : b.ver ≤ ver) (cs : List Cell) (V : Array Value) (hl : cs.length = b.cells.length) (hV : V.size = cs.length)
    (hr : ∀ (j : Nat) (d : Cell) (u : Value), cs[j]? = some d → V[j]? = some u → RCell ι s.h (C.b + s.n) w d u) :
    Moves ι s.h (C.b + s.n) w ι (upd s.h id ⟨ver, cs⟩) (C.b + s.n) (w.setRow (ι id) V) ∧
    Inv C ι ⟨s.t, upd s.h id ⟨ver, cs⟩, s.n⟩ a (w.setRow (ι id) V) := by
  obtain ⟨c0, ty0, g1, g2, g3⟩ := I.heap.blk id b hb hne
  have hcs : cs ≠ [] := by intro h; rw [h] at hl; exact hne (List.eq_nil_of_length_eq_zero hl.symm)
  have hle : b.ver ≤ ver := hver
  have M : Moves ι s.h (C.b + s.n) w ι (upd s.h id ⟨ver, cs⟩) (C.b + s.n) (w.setRow (ι id) V) := by
    refine ⟨Nat.le_refl _, fun b' hs hb' i blk e ne => ?_, fun b' hs hb' => ?_, fun i hi b' e => ?_⟩
    · by_cases h : i = id
      · subst h; exact hs i b hb hne
      · rw [upd_ne _ _ _ _ h] at e; exact hs i blk e ne
    · exact setRow_other w _ _ V (fun e => hs id b hb hne e.symm)
    · by_cases h : i = id
      · subst h
        rw [upd_same] at e
        injection e with e; subst e; exact ⟨b, hb, hle, fun _ => rfl⟩
      · rw [upd_ne _ _ _ _ h] at e; exact ⟨b', e, Nat.le_refl _, fun _ => rfl⟩
  refine ⟨M, ⟨fun i hi b' e => ?_, fun i hi b' e ne => ?_, fun i hi => ?_, ⟨fun i b' e ne => ?_, fun i j bi bj hi hj ni nj hij => ?_⟩, fun t => (I.tmps t).move M, I.ntmps, I.defers, ?_⟩⟩
  · have e' : upd s.h id ⟨ver, cs⟩ i = some b' := e
    by_cases h : i = id
    · subst h
      rw [upd_same] at e'
      injection e' with e'; subst e'
      obtain ⟨b0, k0, k1⟩ := I.outer i hi b hb
      exact ⟨b0, k0, k1.trans (G' := C.w.heap.size) ⟨hver, .inl ⟨hl.symm, rfl⟩⟩ (Nat.le_refl _)⟩
    · rw [upd_ne _ _ _ _ h] at e'; exact I.outer i hi b' e'
  · have e' : upd s.h id ⟨ver, cs⟩ i = some b' := e
    by_cases h : i = id
    · subst h; exact I.fresh i hi b hb hne
    · rw [upd_ne _ _ _ _ h] at e'; exact I.fresh i hi b' e' ne
  · show upd s.h id ⟨ver, cs⟩ i = none
    have : i ≠ id := by intro h; subst h; rw [I.bound i hi] at hb; cases hb
    rw [upd_ne _ _ _ _ this]
    exact I.bound i hi
  · have e' : upd s.h id ⟨ver, cs⟩ i = some b' := e
    by_cases h : i = id
    · subst h
      rw [upd_same] at e'
      injection e' with e'
      subst e'
      exact ⟨V, ty0, setRow_heap w _ _ V ty0 _ g1, hV, fun j d u hd hu => (hr j d u hd hu).move M⟩
    · rw [upd_ne _ _ _ _ h] at e'
      obtain ⟨c, ty', h1, h2, h3⟩ := I.heap.blk i b' e' ne
      have hd : ι i ≠ ι id := fun hh => h (I.heap.inj i id b' b e' hb ne hne hh)
      exact ⟨c, ty', (setRow_other w _ _ V hd).trans h1, h2, fun j d u hd hu => (h3 j d u hd hu).move M⟩
  · have hi' : upd s.h id ⟨ver, cs⟩ i = some bi := hi
    have hj' : upd s.h id ⟨ver, cs⟩ j = some bj := hj
    have gi : ∃ b', s.h i = some b' ∧ b'.cells ≠ [] := by
      by_cases h : i = id
      · subst h; exact ⟨b, hb, hne⟩
      · rw [upd_ne _ _ _ _ h] at hi'; exact ⟨bi, hi', ni⟩
    have gj : ∃ b', s.h j = some b' ∧ b'.cells ≠ [] := by
      by_cases h : j = id
      · subst h; exact ⟨b, hb, hne⟩
      · rw [upd_ne _ _ _ _ h] at hj'; exact ⟨bj, hj', nj⟩
    obtain ⟨x, hx, nx⟩ := gi
    obtain ⟨y, hy, ny⟩ := gj
    exact I.heap.inj i j x y hx hy nx ny hij
  · refine ⟨by have := I.keeps.size; simpa using this, I.keeps.os, I.keeps.output, fun x hs hx => ?_⟩
    have hd : x ≠ ι id := by
      intro hh
      rcases Nat.lt_or_ge id C.b with h | h
      · obtain ⟨b0, k0, k1, k2⟩ := I.outer id h b hb
        rcases k2 with ⟨k2, k3⟩ | ⟨_, k3⟩
        · exact hs id b0 k0 (len_nil k2 hne) (by rw [← k3]; exact hh.symm)
        · have := k3 hne; omega
      · have := I.fresh id h b hb hne
        omega
    rw [setRow_other w _ _ V hd]
    exact I.keeps.old x hs hx

/-- nothing of the heap turns: draws alone -/
theorem Inv.drew {C : Ctx} {ι : Nat → Nat} {s : St} {a : Act} {w : World} (I : Inv C ι s a w) : Inv C ι s a w.drew := by
  have M : Moves ι s.h (C.b + s.n) w ι s.h (C.b + s.n) w.drew := .world (fun _ _ _ => rfl)
  refine ⟨I.outer, I.fresh, I.bound, ⟨fun id b e ne => ?_, I.heap.inj⟩, fun t => (I.tmps t).move M, I.ntmps, I.defers, ⟨I.keeps.size, I.keeps.os, I.keeps.output, I.keeps.old⟩⟩
  obtain ⟨c, ty, h1, h2, h3⟩ := I.heap.blk id b e ne
  exact ⟨c, ty, h1, h2, fun j d u hd hu => (h3 j d u hd hu).move M⟩

end Go.Proofs.YtengjcdilnikhaaDoor.Am
