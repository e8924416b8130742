/-
  The abstract machine: what is known of values and memory, and what it means of a world.
-/
import Derived.Tactics
import Derived.KernelRfl
namespace Go.Proofs.YtengjcdilnikhaaDoor.Am
set_option linter.unusedSimpArgs false
set_option linter.unusedVariables false
set_option linter.unnecessarySimpa false
open Go

/-- pure data of one cell: an exact value, or a slice that can be read and is never written any more (slc: that has no room behind) -/
inductive PD
  | v (x : Value)
  | sl (sz : Nat) (es : List (List PD))
  | slc (sz : Nat) (es : List (List PD))

/-- what is known of one cell -/
inductive Cell
  | p (d : PD)
  | junk
  | ptr (id ver off : Nat)
  | ro (cs : List PD)
  | win (id ver off len cap : Nat)
  | clo (fn : Fn) (first cap : List Cell)

/-- what is known of a value -/
inductive AV
  | one (c : Cell)
  | agg (cs : List Cell)
  | tup (vs : List AV)

structure Blk where
  ver : Nat
  cells : List Cell

abbrev Heap := Nat → Option Blk

def upd (h : Heap) (id : Nat) (b : Blk) : Heap := fun i => if i = id then some b else h i

theorem upd_same (h : Heap) (id : Nat) (b : Blk) : upd h id b id = some b := by simp [upd]
theorem upd_ne (h : Heap) (id j : Nat) (b : Blk) (e : j ≠ id) : upd h id b j = h j := by simp [upd, e]

inductive RPD (S : Nat → Prop) (w : World) : PD → Value → Prop
  | v (x : Value) : RPD S w (.v x) x
  | sl {sz : Nat} {es : List (List PD)} (a : Option Addr) (cap : Nat) (U : Nat → Nat → Value)
      (hcap : es.length ≤ cap) (hnil : a = none → cap = 0)
      (hspot : ∀ A, a = some A → es = [] ∨ A.spot = none)
      (hsz : ∀ e ∈ es, e.length = sz)
      (hc : ∀ (i : Nat) (e : List PD), es[i]? = some e → ∀ (j : Nat) (d : PD), e[j]? = some d → ∃ A : Addr, a = some A ∧ S A.block ∧ w.cell? ⟨A.block, A.off + (i * sz + j), none⟩ = some (U i j))
      (hr : ∀ (i : Nat) (e : List PD), es[i]? = some e → ∀ (j : Nat) (d : PD), e[j]? = some d → RPD S w d (U i j)) :
      RPD S w (.sl sz es) (.slice a es.length cap)
  | slc {sz : Nat} {es : List (List PD)} {a : Option Addr} (h : RPD S w (.sl sz es) (.slice a es.length es.length)) : RPD S w (.slc sz es) (.slice a es.length es.length)

/-- two worlds agree on the blocks of a set -/
def AgreeOn (S : Nat → Prop) (w w' : World) : Prop := ∀ b, S b → b < w.heap.size → w'.heap[b]? = w.heap[b]?

theorem cell_lt {w : World} {a : Addr} {v : Value} (h : w.cell? a = some v) : a.block < w.heap.size := by
  unfold World.cell? at h
  rcases Nat.lt_or_ge a.block w.heap.size with h' | h'
  · exact h'
  · simp [Array.getElem?_eq_none h'] at h

theorem cell_same {w w' : World} {a : Addr} (h : w'.heap[a.block]? = w.heap[a.block]?) : w'.cell? a = w.cell? a := by
  unfold World.cell?
  rw [h]

theorem RPD.mono {S S' : Nat → Prop} {w w' : World} (hS : ∀ b, S b → b < w.heap.size → S' b) (ha : AgreeOn S w w') {d : PD} {v : Value} (h : RPD S w d v) : RPD S' w' d v := by
  induction h with
  | v x => exact .v x
  | @sl sz es a cap U hcap hnil hspot hsz hc hr ih =>
    refine .sl a cap U hcap hnil hspot hsz (fun i e he j d hd => ?_) ih
    obtain ⟨A, hA, hs, hcell⟩ := hc i e he j d hd
    have hlt := cell_lt hcell
    exact ⟨A, hA, hS _ hs hlt, (cell_same (a := ⟨A.block, _, none⟩) (ha _ hs hlt)).trans hcell⟩
  | slc h ih => exact .slc ih

/-- no living block of the abstract heap lies there -/
def stab (ι : Nat → Nat) (h : Heap) (b : Nat) : Prop := ∀ id blk, h id = some blk → blk.cells ≠ [] → ι id ≠ b

inductive RCell (ι : Nat → Nat) (h : Heap) (bd : Nat) (w : World) : Cell → Value → Prop
  | p {d : PD} {v : Value} (hd : RPD (stab ι h) w d v) : RCell ι h bd w (.p d) v
  | junk (v : Value) : RCell ι h bd w .junk v
  | ptr {id ver off : Nat} {v : Value} (hid : id < bd) (hver : ∀ blk, h id = some blk → ver ≤ blk.ver)
      (hv : ∀ blk, h id = some blk → blk.ver = ver → v = .pointer (some ⟨ι id, off, none⟩)) : RCell ι h bd w (.ptr id ver off) v
  | ro {cs : List PD} (A : Addr) (U : Nat → Value) (hs : A.spot = none)
      (hc : ∀ (j : Nat) (d : PD), cs[j]? = some d → stab ι h A.block ∧ w.cell? ⟨A.block, A.off + j, none⟩ = some (U j) ∧ RPD (stab ι h) w d (U j)) :
      RCell ι h bd w (.ro cs) (.pointer (some A))
  | win {id ver off len cap : Nat} {v : Value} (hid : id < bd) (hver : ∀ blk, h id = some blk → ver ≤ blk.ver)
      (hv : ∀ blk, h id = some blk → blk.ver = ver → len ≤ cap ∧ (v = .slice (some ⟨ι id, off, none⟩) len cap ∨ (v = .slice none 0 0 ∧ len = 0 ∧ cap = 0))) :
      RCell ι h bd w (.win id ver off len cap) v
  | clo {fn : Fn} {first cap : List Cell} (F C : List Value) (hF : F.length = first.length) (hC : C.length = cap.length)
      (h1 : ∀ (i : Nat) (c : Cell) (u : Value), first[i]? = some c → F[i]? = some u → RCell ι h bd w c u)
      (h2 : ∀ (i : Nat) (c : Cell) (u : Value), cap[i]? = some c → C[i]? = some u → RCell ι h bd w c u) :
      RCell ι h bd w (.clo fn first cap) (.func fn F.toArray C.toArray)

inductive RAV (ι : Nat → Nat) (h : Heap) (bd : Nat) (w : World) : AV → Value → Prop
  | one {c : Cell} {v : Value} (hc : RCell ι h bd w c v) : RAV ι h bd w (.one c) v
  | agg {cs : List Cell} (V : List Value) (hl : V.length = cs.length)
      (hv : ∀ (i : Nat) (c : Cell) (u : Value), cs[i]? = some c → V[i]? = some u → RCell ι h bd w c u) : RAV ι h bd w (.agg cs) (.agg V.toArray)
  | tup {vs : List AV} (V : List Value) (hl : V.length = vs.length)
      (hv : ∀ (i : Nat) (c : AV) (u : Value), vs[i]? = some c → V[i]? = some u → RAV ι h bd w c u) : RAV ι h bd w (.tup vs) (.tuple V.toArray)

structure HeapOK (ι : Nat → Nat) (h : Heap) (bd : Nat) (w : World) : Prop where
  blk : ∀ id b, h id = some b → b.cells ≠ [] → ∃ (c : Array Value) (e : TypeId), w.heap[ι id]? = some (.cells c e (0, 0)) ∧ c.size = b.cells.length ∧
    ∀ (j : Nat) (d : Cell) (u : Value), b.cells[j]? = some d → c[j]? = some u → RCell ι h bd w d u
  inj : ∀ i j bi bj, h i = some bi → h j = some bj → bi.cells ≠ [] → bj.cells ≠ [] → ι i = ι j → i = j

/-- what was there, and is none of the abstract heap's, is as it was -/
structure Keeps (ι : Nat → Nat) (h : Heap) (w w' : World) : Prop where
  size : w.heap.size ≤ w'.heap.size
  os : w'.os = w.os
  output : w'.output = w.output
  old : AgreeOn (stab ι h) w w'

theorem Keeps.refl (ι : Nat → Nat) (h : Heap) (w : World) : Keeps ι h w w := ⟨Nat.le_refl _, rfl, rfl, fun _ _ _ => rfl⟩

/-- the relation moves along -/
structure Moves (ι : Nat → Nat) (h : Heap) (bd : Nat) (w : World) (ι' : Nat → Nat) (h' : Heap) (bd' : Nat) (w' : World) : Prop where
  hbd : bd ≤ bd'
  stab : ∀ b, stab ι h b → b < w.heap.size → Am.stab ι' h' b
  agree : AgreeOn (Am.stab ι h) w w'
  blk : ∀ id, id < bd → ∀ b', h' id = some b' → ∃ b, h id = some b ∧ b.ver ≤ b'.ver ∧ (b.ver = b'.ver → ι' id = ι id)

theorem RCell.move {ι ι' : Nat → Nat} {h h' : Heap} {bd bd' : Nat} {w w' : World} (m : Moves ι h bd w ι' h' bd' w') {c : Cell} {v : Value} (r : RCell ι h bd w c v) : RCell ι' h' bd' w' c v := by
  induction r with
  | p hd => exact .p (hd.mono m.stab m.agree)
  | junk v => exact .junk v
  | @ptr id ver off v hid hver hv =>
    refine .ptr (Nat.lt_of_lt_of_le hid m.hbd) (fun b' hb' => ?_) (fun b' hb' e => ?_)
    · obtain ⟨b, hb, hle, _⟩ := m.blk id hid b' hb'
      exact Nat.le_trans (hver b hb) hle
    · obtain ⟨b, hb, hle, hi⟩ := m.blk id hid b' hb'
      have e1 : b.ver = ver := Nat.le_antisymm (e ▸ hle) (hver b hb)
      rw [hi (e1.trans e.symm)]
      exact hv b hb e1
  | @ro cs A U hs hc =>
    refine .ro A U hs (fun j d hd => ?_)
    obtain ⟨h1, h2, h3⟩ := hc j d hd
    have hlt := cell_lt h2
    exact ⟨m.stab _ h1 hlt, (cell_same (a := ⟨A.block, _, none⟩) (m.agree _ h1 hlt)).trans h2, h3.mono m.stab m.agree⟩
  | @win id ver off len cap v hid hver hv =>
    refine .win (Nat.lt_of_lt_of_le hid m.hbd) (fun b' hb' => ?_) (fun b' hb' e => ?_)
    · obtain ⟨b, hb, hle, _⟩ := m.blk id hid b' hb'
      exact Nat.le_trans (hver b hb) hle
    · obtain ⟨b, hb, hle, hi⟩ := m.blk id hid b' hb'
      have e1 : b.ver = ver := Nat.le_antisymm (e ▸ hle) (hver b hb)
      rw [hi (e1.trans e.symm)]
      exact hv b hb e1
  | clo F C hF hC h1 h2 ih1 ih2 => exact .clo F C hF hC ih1 ih2

theorem RAV.move {ι ι' : Nat → Nat} {h h' : Heap} {bd bd' : Nat} {w w' : World} (m : Moves ι h bd w ι' h' bd' w') {c : AV} {v : Value} (r : RAV ι h bd w c v) : RAV ι' h' bd' w' c v := by
  induction r with
  | one hc => exact .one (hc.move m)
  | agg V hl hv => exact .agg V hl (fun i c u hc hu => (hv i c u hc hu).move m)
  | tup V hl hv ih => exact .tup V hl ih

theorem Moves.refl (ι : Nat → Nat) (h : Heap) (bd : Nat) (w : World) : Moves ι h bd w ι h bd w :=
  ⟨Nat.le_refl _, fun _ s _ => s, fun _ _ _ => rfl, fun _ _ b' hb' => ⟨b', hb', Nat.le_refl _, fun _ => rfl⟩⟩

/-- the world moves, nothing of the abstract heap does -/
theorem Moves.world {ι : Nat → Nat} {h : Heap} {bd : Nat} {w w' : World} (a : AgreeOn (Am.stab ι h) w w') : Moves ι h bd w ι h bd w' :=
  ⟨Nat.le_refl _, fun _ s _ => s, a, fun _ _ b' hb' => ⟨b', hb', Nat.le_refl _, fun _ => rfl⟩⟩

/-- less is known of the heap -/
theorem Moves.less {ι : Nat → Nat} {h h' : Heap} {bd : Nat} {w : World} (l : ∀ id b, h' id = some b → h id = some b) : Moves ι h bd w ι h' bd w :=
  ⟨Nat.le_refl _, fun _ s _ id blk e n => s id blk (l _ _ e) n, fun _ _ _ => rfl, fun _ _ b' hb' => ⟨b', l _ _ hb', Nat.le_refl _, fun _ => rfl⟩⟩

theorem HeapOK.less {ι : Nat → Nat} {h h' : Heap} {bd : Nat} {w : World} (H : HeapOK ι h bd w) (l : ∀ id b, h' id = some b → h id = some b) : HeapOK ι h' bd w := by
  refine ⟨fun id b hb hn => ?_, fun i j bi bj hi hj => H.inj i j bi bj (l _ _ hi) (l _ _ hj)⟩
  obtain ⟨c, e, h1, h2, h3⟩ := H.blk id b (l _ _ hb) hn
  exact ⟨c, e, h1, h2, fun j d u hd hu => (h3 j d u hd hu).move (.less l)⟩

end Go.Proofs.YtengjcdilnikhaaDoor.Am
