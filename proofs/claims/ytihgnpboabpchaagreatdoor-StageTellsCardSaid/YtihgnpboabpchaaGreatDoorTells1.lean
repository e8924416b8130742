/-
 Part 1 of the proof of stageTells_card: steps of the machine, walks and plain laws; each holds under the conditions that it states.
-/
import Derived.Tactics
import Derived.KernelRfl
import Derived.CallsIn
import Derived.TacticsIn
import Derived.Laws.IdiomCopy
import Derived.Laws.Strings
import Derived.Laws.BytesArg
import Derived.Laws.StructEq
import Derived.Laws.Tables
import Derived.Laws.Pointers
namespace Go.Proofs.YtihgnpboabpchaaGreatDoor.Am
set_option linter.unusedSimpArgs false
set_option linter.unusedVariables false
set_option linter.unnecessarySimpa false
open Go
inductive PD
 | v (x : Value)
 | sl (sz : Nat) (es : List (List PD))
 | slc (sz : Nat) (es : List (List PD))
inductive Cell
 | p (d : PD)
 | junk
 | ptr (id ver off : Nat)
 | ro (cs : List PD)
 | win (id ver off len cap : Nat)
 | clo (fn : Fn) (first cap : List Cell)
inductive AV
 | one (c : Cell)
 | agg (cs : List Cell)
 | tup (vs : List AV)
structure Blk where
 ver : Nat
 cells : List Cell
abbrev Heap := Nat → Option Blk
def upd (h : Heap) (id : Nat) (b : Blk) : Heap := fun i => if i = id then some b else h i
theorem upd_same (h : Heap) (id : Nat) (b : Blk) : upd h id b id = some b := by simp [upd]
theorem upd_ne (h : Heap) (id j : Nat) (b : Blk) (e : j ≠ id) : upd h id b j = h j := by simp [upd, e]
inductive RPD (S : Nat → Prop) (w : World) : PD → Value → Prop
 | v (x : Value) : RPD S w (.v x) x
 | sl {sz : Nat} {es : List (List PD)} (a : Option Addr) (cap : Nat) (U : Nat → Nat → Value)
   (hcap : es.length ≤ cap) (hnil : a = none → cap = 0)
   (hspot : ∀ A, a = some A → es = [] ∨ A.spot = none)
   (hsz : ∀ e ∈ es, e.length = sz)
   (hc : ∀ (i : Nat) (e : List PD), es[i]? = some e → ∀ (j : Nat) (d : PD), e[j]? = some d → ∃ A : Addr, a = some A ∧ S A.block ∧ w.cell? ⟨A.block, A.off + (i * sz + j), none⟩ = some (U i j))
   (hr : ∀ (i : Nat) (e : List PD), es[i]? = some e → ∀ (j : Nat) (d : PD), e[j]? = some d → RPD S w d (U i j)) :
   RPD S w (.sl sz es) (.slice a es.length cap)
 | slc {sz : Nat} {es : List (List PD)} {a : Option Addr} (h : RPD S w (.sl sz es) (.slice a es.length es.length)) : RPD S w (.slc sz es) (.slice a es.length es.length)
def AgreeOn (S : Nat → Prop) (w w' : World) : Prop := ∀ b, S b → b < w.heap.size → w'.heap[b]? = w.heap[b]?
theorem cell_lt {w : World} {a : Addr} {v : Value} (h : w.cell? a = some v) : a.block < w.heap.size := by
 unfold World.cell? at h
 rcases Nat.lt_or_ge a.block w.heap.size with h' | h'
 ·exact h'
 ·simp [Array.getElem?_eq_none h'] at h
theorem cell_same {w w' : World} {a : Addr} (h : w'.heap[a.block]? = w.heap[a.block]?) : w'.cell? a = w.cell? a := by
 unfold World.cell?
 rw [h]
theorem RPD.mono {S S' : Nat → Prop} {w w' : World} (hS : ∀ b, S b → b < w.heap.size → S' b) (ha : AgreeOn S w w') {d : PD} {v : Value} (h : RPD S w d v) : RPD S' w' d v := by
 induction h with
 | v x => exact .v x
 | @sl sz es a cap U hcap hnil hspot hsz hc hr ih =>
   refine .sl a cap U hcap hnil hspot hsz (fun i e he j d hd => ?_) ih
   obtain ⟨A, hA, hs, hcell⟩ := hc i e he j d hd
   have hlt := cell_lt hcell
   exact ⟨A, hA, hS _ hs hlt, (cell_same (a := ⟨A.block, _, none⟩) (ha _ hs hlt)).trans hcell⟩
 | slc h ih => exact .slc ih
def stab (ι : Nat → Nat) (h : Heap) (b : Nat) : Prop := ∀ id blk, h id = some blk → blk.cells ≠ [] → ι id ≠ b
inductive RCell (ι : Nat → Nat) (h : Heap) (bd : Nat) (w : World) : Cell → Value → Prop
 | p {d : PD} {v : Value} (hd : RPD (stab ι h) w d v) : RCell ι h bd w (.p d) v
 | junk (v : Value) : RCell ι h bd w .junk v
 | ptr {id ver off : Nat} {v : Value} (hid : id < bd) (hver : ∀ blk, h id = some blk → ver ≤ blk.ver)
   (hv : ∀ blk, h id = some blk → blk.ver = ver → v = .pointer (some ⟨ι id, off, none⟩)) : RCell ι h bd w (.ptr id ver off) v
 | ro {cs : List PD} (A : Addr) (U : Nat → Value) (hs : A.spot = none)
   (hc : ∀ (j : Nat) (d : PD), cs[j]? = some d → stab ι h A.block ∧ w.cell? ⟨A.block, A.off + j, none⟩ = some (U j) ∧ RPD (stab ι h) w d (U j)) :
   RCell ι h bd w (.ro cs) (.pointer (some A))
 | win {id ver off len cap : Nat} {v : Value} (hid : id < bd) (hver : ∀ blk, h id = some blk → ver ≤ blk.ver)
   (hv : ∀ blk, h id = some blk → blk.ver = ver → len ≤ cap ∧ (v = .slice (some ⟨ι id, off, none⟩) len cap ∨ (v = .slice none 0 0 ∧ len = 0 ∧ cap = 0))) :
   RCell ι h bd w (.win id ver off len cap) v
 | clo {fn : Fn} {first cap : List Cell} (F C : List Value) (hF : F.length = first.length) (hC : C.length = cap.length)
   (h1 : ∀ (i : Nat) (c : Cell) (u : Value), first[i]? = some c → F[i]? = some u → RCell ι h bd w c u)
   (h2 : ∀ (i : Nat) (c : Cell) (u : Value), cap[i]? = some c → C[i]? = some u → RCell ι h bd w c u) :
   RCell ι h bd w (.clo fn first cap) (.func fn F.toArray C.toArray)
inductive RAV (ι : Nat → Nat) (h : Heap) (bd : Nat) (w : World) : AV → Value → Prop
 | one {c : Cell} {v : Value} (hc : RCell ι h bd w c v) : RAV ι h bd w (.one c) v
 | agg {cs : List Cell} (V : List Value) (hl : V.length = cs.length)
   (hv : ∀ (i : Nat) (c : Cell) (u : Value), cs[i]? = some c → V[i]? = some u → RCell ι h bd w c u) : RAV ι h bd w (.agg cs) (.agg V.toArray)
 | tup {vs : List AV} (V : List Value) (hl : V.length = vs.length)
   (hv : ∀ (i : Nat) (c : AV) (u : Value), vs[i]? = some c → V[i]? = some u → RAV ι h bd w c u) : RAV ι h bd w (.tup vs) (.tuple V.toArray)
structure HeapOK (ι : Nat → Nat) (h : Heap) (bd : Nat) (w : World) : Prop where
 blk : ∀ id b, h id = some b → b.cells ≠ [] → ∃ (c : Array Value) (e : TypeId), w.heap[ι id]? = some (.cells c e (0, 0)) ∧ c.size = b.cells.length ∧
  ∀ (j : Nat) (d : Cell) (u : Value), b.cells[j]? = some d → c[j]? = some u → RCell ι h bd w d u
 inj : ∀ i j bi bj, h i = some bi → h j = some bj → bi.cells ≠ [] → bj.cells ≠ [] → ι i = ι j → i = j
structure Keeps (ι : Nat → Nat) (h : Heap) (w w' : World) : Prop where
 size : w.heap.size ≤ w'.heap.size
 os : w'.os = w.os
 output : w'.output = w.output
 old : AgreeOn (stab ι h) w w'
theorem Keeps.refl (ι : Nat → Nat) (h : Heap) (w : World) : Keeps ι h w w := ⟨Nat.le_refl _, rfl, rfl, fun _ _ _ => rfl⟩
structure Moves (ι : Nat → Nat) (h : Heap) (bd : Nat) (w : World) (ι' : Nat → Nat) (h' : Heap) (bd' : Nat) (w' : World) : Prop where
 hbd : bd ≤ bd'
 stab : ∀ b, stab ι h b → b < w.heap.size → Am.stab ι' h' b
 agree : AgreeOn (Am.stab ι h) w w'
 blk : ∀ id, id < bd → ∀ b', h' id = some b' → ∃ b, h id = some b ∧ b.ver ≤ b'.ver ∧ (b.ver = b'.ver → ι' id = ι id)
theorem RCell.move {ι ι' : Nat → Nat} {h h' : Heap} {bd bd' : Nat} {w w' : World} (m : Moves ι h bd w ι' h' bd' w') {c : Cell} {v : Value} (r : RCell ι h bd w c v) : RCell ι' h' bd' w' c v := by
 induction r with
 | p hd => exact .p (hd.mono m.stab m.agree)
 | junk v => exact .junk v
 | @ptr id ver off v hid hver hv =>
   refine .ptr (Nat.lt_of_lt_of_le hid m.hbd) (fun b' hb' => ?_) (fun b' hb' e => ?_)
   ·obtain ⟨b, hb, hle, _⟩ := m.blk id hid b' hb'
    exact Nat.le_trans (hver b hb) hle
   ·obtain ⟨b, hb, hle, hi⟩ := m.blk id hid b' hb'
    have e1 : b.ver = ver := Nat.le_antisymm (e ▸ hle) (hver b hb)
    rw [hi (e1.trans e.symm)]
    exact hv b hb e1
 | @ro cs A U hs hc =>
   refine .ro A U hs (fun j d hd => ?_)
   obtain ⟨h1, h2, h3⟩ := hc j d hd
   have hlt := cell_lt h2
   exact ⟨m.stab _ h1 hlt, (cell_same (a := ⟨A.block, _, none⟩) (m.agree _ h1 hlt)).trans h2, h3.mono m.stab m.agree⟩
 | @win id ver off len cap v hid hver hv =>
   refine .win (Nat.lt_of_lt_of_le hid m.hbd) (fun b' hb' => ?_) (fun b' hb' e => ?_)
   ·obtain ⟨b, hb, hle, _⟩ := m.blk id hid b' hb'
    exact Nat.le_trans (hver b hb) hle
   ·obtain ⟨b, hb, hle, hi⟩ := m.blk id hid b' hb'
    have e1 : b.ver = ver := Nat.le_antisymm (e ▸ hle) (hver b hb)
    rw [hi (e1.trans e.symm)]
    exact hv b hb e1
 | clo F C hF hC h1 h2 ih1 ih2 => exact .clo F C hF hC ih1 ih2
theorem RAV.move {ι ι' : Nat → Nat} {h h' : Heap} {bd bd' : Nat} {w w' : World} (m : Moves ι h bd w ι' h' bd' w') {c : AV} {v : Value} (r : RAV ι h bd w c v) : RAV ι' h' bd' w' c v := by
 induction r with
 | one hc => exact .one (hc.move m)
 | agg V hl hv => exact .agg V hl (fun i c u hc hu => (hv i c u hc hu).move m)
 | tup V hl hv ih => exact .tup V hl ih
theorem Moves.refl (ι : Nat → Nat) (h : Heap) (bd : Nat) (w : World) : Moves ι h bd w ι h bd w :=
 ⟨Nat.le_refl _, fun _ s _ => s, fun _ _ _ => rfl, fun _ _ b' hb' => ⟨b', hb', Nat.le_refl _, fun _ => rfl⟩⟩
theorem Moves.world {ι : Nat → Nat} {h : Heap} {bd : Nat} {w w' : World} (a : AgreeOn (Am.stab ι h) w w') : Moves ι h bd w ι h bd w' :=
 ⟨Nat.le_refl _, fun _ s _ => s, a, fun _ _ b' hb' => ⟨b', hb', Nat.le_refl _, fun _ => rfl⟩⟩
theorem Moves.less {ι : Nat → Nat} {h h' : Heap} {bd : Nat} {w : World} (l : ∀ id b, h' id = some b → h id = some b) : Moves ι h bd w ι h' bd w :=
 ⟨Nat.le_refl _, fun _ s _ id blk e n => s id blk (l _ _ e) n, fun _ _ _ => rfl, fun _ _ b' hb' => ⟨b', l _ _ hb', Nat.le_refl _, fun _ => rfl⟩⟩
theorem HeapOK.less {ι : Nat → Nat} {h h' : Heap} {bd : Nat} {w : World} (H : HeapOK ι h bd w) (l : ∀ id b, h' id = some b → h id = some b) : HeapOK ι h' bd w := by
 refine ⟨fun id b hb hn => ?_, fun i j bi bj hi hj => H.inj i j bi bj (l _ _ hi) (l _ _ hj)⟩
 obtain ⟨c, e, h1, h2, h3⟩ := H.blk id b (l _ _ hb) hn
 exact ⟨c, e, h1, h2, fun j d u hd hu => (h3 j d u hd hu).move (.less l)⟩
structure Xt where
 D : List Deferred
 rd : Option Nat
 E : Act → World → Prop
abbrev x0 : Xt := ⟨[], none, fun _ _ => False⟩
structure Ctx where
 N : Nat
 b : Nat
 ι : Nat → Nat
 h : Heap
 w : World
 x : Xt
def Ctx.F (C : Ctx) : Fence := { Fence.wide with round := C.x.rd }
theorem Ctx.F_fn (C : Ctx) (f : FuncId) : C.F.fn f := trivial
theorem Ctx.F_wide {C : Ctx} (h : C.x.rd = none) : C.F = Fence.wide := by unfold Ctx.F; rw [h]; rfl
structure St where
 t : Nat → AV
 h : Heap
 n : Nat
def Went (G : Nat) (b0 b' : Blk) (p0 p' : Nat) : Prop := b0.ver ≤ b'.ver ∧ ((b0.cells.length = b'.cells.length ∧ p' = p0) ∨ (b0.ver < b'.ver ∧ (b'.cells ≠ [] → G ≤ p')))
theorem Went.refl (G : Nat) (b : Blk) (p : Nat) : Went G b b p p := ⟨Nat.le_refl _, .inl ⟨rfl, rfl⟩⟩
theorem len_nil {b0 b1 : Blk} (h : b0.cells.length = b1.cells.length) (n : b1.cells ≠ []) : b0.cells ≠ [] := fun hz => n (List.eq_nil_of_length_eq_zero (by rw [← h, hz]; rfl))
theorem Went.trans {G G' : Nat} {b0 b1 b2 : Blk} {p0 p1 p2 : Nat} (x : Went G b0 b1 p0 p1) (y : Went G' b1 b2 p1 p2) (hG : G ≤ G') : Went G b0 b2 p0 p2 := by
 obtain ⟨x1, x2⟩ := x
 obtain ⟨y1, y2⟩ := y
 refine ⟨Nat.le_trans x1 y1, ?_⟩
 rcases y2 with ⟨y2, y3⟩ | ⟨y2, y3⟩
 ·rcases x2 with ⟨x2, x3⟩ | ⟨x2, x3⟩
  ·exact .inl ⟨x2.trans y2, y3.trans x3⟩
  ·exact .inr ⟨Nat.lt_of_lt_of_le x2 y1, fun h => by rw [y3]; exact x3 (len_nil y2 h)⟩
 ·exact .inr ⟨Nat.lt_of_le_of_lt x1 y2, fun h => Nat.le_trans hG (y3 h)⟩
theorem Went.place {G : Nat} {b0 b' : Blk} {p0 p' : Nat} (x : Went G b0 b' p0 p') (e : b0.ver = b'.ver) : p' = p0 := by
 rcases x.2 with h | h
 ·exact h.2
 ·omega
structure Inv (C : Ctx) (ι : Nat → Nat) (s : St) (a : Act) (w : World) : Prop where
 outer : ∀ id, id < C.b → ∀ b', s.h id = some b' → ∃ b, C.h id = some b ∧ Went C.w.heap.size b b' (C.ι id) (ι id)
 fresh : ∀ id, C.b ≤ id → ∀ b', s.h id = some b' → b'.cells ≠ [] → C.w.heap.size ≤ ι id
 bound : ∀ id, C.b + s.n ≤ id → s.h id = none
 heap : HeapOK ι s.h (C.b + s.n) w
 tmps : ∀ t, RAV ι s.h (C.b + s.n) w (s.t t) (a.tmps.getD t undef)
 ntmps : a.tmps.size = C.N
 defers : a.defers = C.x.D
 keeps : Keeps C.ι C.h C.w w
def PostQ (C : Ctx) (Q : Exit → St → Prop) (e : Exit) (a' : Act) (w' : World) : Prop := (∃ s' ι', Q e s' ∧ Inv C ι' s' a' w') ∨ (e = .ret ∧ C.x.E a' w')
def AWP (P : Program) (C : Ctx) (c : Code) (Q : Exit → St → Prop) (s : St) : Prop :=
 ∀ a w ι, Inv C ι s a w → c.wpIn C.F 0 P (PostQ C Q) a w
def ofV : Value → AV
 | .agg cs => .agg (cs.toList.map fun v => .p (.v v))
 | v => .one (.p (.v v))
def val (t : Nat → AV) : Operand → AV
 | .tmp i => t i
 | .const v => ofV v
 | .global g => .one (.p (.v (.pointer (some ⟨g, 0, none⟩))))
 | .func f => .one (.clo (.func f) [] [])
theorem rav_v {ι : Nat → Nat} {h : Heap} {bd : Nat} {w : World} (v : Value) : RAV ι h bd w (.one (.p (.v v))) v := .one (.p (.v v))
theorem rav_ofV {ι : Nat → Nat} {h : Heap} {bd : Nat} {w : World} (v : Value) : RAV ι h bd w (ofV v) v := by
 cases v with
 | agg cs =>
   have : RAV ι h bd w (.agg (cs.toList.map fun v => .p (.v v))) (.agg cs.toList.toArray) := by
    refine .agg cs.toList (by simp) (fun i c u hc hu => ?_)
    rw [List.getElem?_map, hu] at hc
    simp at hc
    subst hc
    exact .p (.v u)
   simpa [ofV] using this
 | _ => exact rav_v _
theorem val_ok {C : Ctx} {ι : Nat → Nat} {s : St} {a : Act} {w : World} (I : Inv C ι s a w) (x : Operand) : RAV ι s.h (C.b + s.n) w (val s.t x) (a.eval x) := by
 cases x with
 | tmp t => exact I.tmps t
 | const v => exact rav_ofV v
 | global g => exact rav_v _
 | func f => exact .one (.clo (fn := .func f) (first := []) (cap := []) [] [] rfl rfl (fun _ _ _ h => by simp at h) (fun _ _ _ h => by simp at h))
theorem rav_v_inv {ι : Nat → Nat} {h : Heap} {bd : Nat} {w : World} {x v : Value} (r : RAV ι h bd w (.one (.p (.v x))) v) : v = x := by
 cases r with
 | one hc => cases hc with | p hd => cases hd with | v => rfl
def thn (K : St → Prop) (Q : Exit → St → Prop) : Exit → St → Prop
 | .normal, s => K s
 | e, s => Q e s
def inBlk (id : Nat) (Q : Exit → St → Prop) : Exit → St → Prop
 | .exit id', s => if id' = id then Q .normal s else Q (.exit id') s
 | e, s => Q e s
section rules
variable {P : Program} {C : Ctx} {Q : Exit → St → Prop} {s : St}
theorem AWP.mono {c : Code} {Q' : Exit → St → Prop} (h : AWP P C c Q s) (hq : ∀ e s, Q e s → Q' e s) : AWP P C c Q' s :=
 fun a w ι I => wpIn_mono (h a w ι I) fun _ _ _ q => q.imp (fun ⟨s', ι', q, I'⟩ => ⟨s', ι', hq _ _ q, I'⟩) id
theorem AWP.weak {c : Code} {s' : St} (hw : ∀ a w ι, Inv C ι s a w → ∃ ι', Inv C ι' s' a w) (h : AWP P C c Q s') : AWP P C c Q s :=
 fun a w ι I => let ⟨ι', I'⟩ := hw a w ι I; h a w ι' I'
theorem AWP.of_wp {c : Code} (hr : C.x.rd = none) (h : ∀ a w ι, Inv C ι s a w → c.wp P (fun e a' w' => ∃ s' ι', Q e s' ∧ Inv C ι' s' a' w') a w) : AWP P C c Q s :=
 fun a w ι I => by rw [Ctx.F_wide hr]; exact wpIn_wide.2 (wp_mono (h a w ι I) fun _ _ _ q => .inl q)
theorem AWP.skip (h : Q .normal s) : AWP P C .skip Q s := fun _ _ ι I => wpIn_skip (.inl ⟨s, ι, h, I⟩)
theorem AWP.ret (h : Q .ret s) : AWP P C .ret Q s := fun _ _ ι I => wpIn_ret (.inl ⟨s, ι, h, I⟩)
theorem AWP.exit {id : Nat} (h : Q (.exit id) s) : AWP P C (.exit id) Q s := fun _ _ ι I => wpIn_exit (.inl ⟨s, ι, h, I⟩)
theorem AWP.seq {x y : Code} (h : AWP P C x (thn (AWP P C y Q) Q) s) : AWP P C (.seq x y) Q s := by
 intro a w ι I
 refine wpIn_seq (wpIn_mono (h a w ι I) ?_)
 rintro e a' w' (⟨s', ι', q, I'⟩ | ⟨rfl, he⟩)
 ·cases e <;> first | exact q a' w' ι' I' | exact .inl ⟨s', ι', q, I'⟩
 ·exact .inr ⟨rfl, he⟩
theorem AWP.block {id : Nat} {c : Code} (h : AWP P C c (inBlk id Q) s) : AWP P C (.block id c) Q s := by
 intro a w ι I
 refine wpIn_block (wpIn_mono (h a w ι I) ?_)
 rintro e a' w' (⟨s', ι', q, I'⟩ | ⟨rfl, he⟩)
 ·cases e with
  | exit id' =>
    simp only [Exit.inBlock]
    simp only [inBlk] at q
    split
    ·rename_i e; rw [if_pos e] at q; exact .inl ⟨s', ι', q, I'⟩
    ·rename_i e; rw [if_neg e] at q; exact .inl ⟨s', ι', q, I'⟩
  | _ => exact .inl ⟨s', ι', q, I'⟩
 ·exact .inr ⟨rfl, he⟩
theorem AWP.cond {c : Operand} {x y : Code} {t : Bool} (hc : val s.t c = .one (.p (.v (.bool t)))) (ht : t = true → AWP P C x Q s) (hf : t = false → AWP P C y Q s) :
  AWP P C (.cond c x y) Q s := by
 intro a w ι I
 have hv := val_ok I c
 rw [hc] at hv
 exact wpIn_cond_split (rav_v_inv hv) (fun e => ht e a w ι I) (fun e => hf e a w ι I)
end rules
mutual
def lowC (m : Nat) : Cell → Bool
 | .p _ | .junk | .ro _ => true
 | .ptr id _ _ | .win id _ _ _ _ => decide (id < m)
 | .clo _ f c => lowCs m f && lowCs m c
def lowCs (m : Nat) : List Cell → Bool
 | [] => true
 | c :: cs => lowC m c && lowCs m cs
end
theorem lowCs_mem {m : Nat} {cs : List Cell} (h : lowCs m cs = true) : ∀ c ∈ cs, lowC m c = true := by
 induction cs with
 | nil => intro c hc; cases hc
 | cons x xs ih =>
   simp only [lowCs, Bool.and_eq_true] at h
   intro c hc
   cases hc with
   | head => exact h.1
   | tail _ hc => exact ih h.2 c hc
theorem lowCs_of {m : Nat} {cs : List Cell} (h : ∀ c ∈ cs, lowC m c = true) : lowCs m cs = true := by
 induction cs with
 | nil => rfl
 | cons x xs ih => simp only [lowCs, Bool.and_eq_true]; exact ⟨h x (by simp), ih fun c hc => h c (by simp [hc])⟩
def cutC (m : Nat) (c : Cell) : Cell := if lowC m c then c else .junk
def cutV (m : Nat) : AV → AV
 | .one c => .one (cutC m c)
 | .agg cs => .agg (cs.map (cutC m))
 | .tup _ => .one .junk
def cutH (m : Nat) (h : Heap) : Heap := fun id => if id < m then (h id).map (fun b => ⟨b.ver, b.cells.map (cutC m)⟩) else none
def St.cut (C : Ctx) (n : Nat) (s : St) : St := ⟨fun t => cutV (C.b + n) (s.t t), cutH (C.b + n) s.h, n⟩
theorem cutH_some {m : Nat} {h : Heap} {id : Nat} {b' : Blk} (e : cutH m h id = some b') : id < m ∧ ∃ b, h id = some b ∧ b' = ⟨b.ver, b.cells.map (cutC m)⟩ := by
 unfold cutH at e
 split at e
 ·rename_i hlt
  cases hb : h id with
  | none => rw [hb] at e; simp at e
  | some b => rw [hb] at e; simp at e; exact ⟨hlt, b, rfl, e.symm⟩
 ·simp at e
theorem stab_cut {ι : Nat → Nat} {m : Nat} {h : Heap} {b : Nat} (s : stab ι h b) : stab ι (cutH m h) b := by
 intro id blk e hn
 obtain ⟨_, b0, h0, rfl⟩ := cutH_some e
 exact s id b0 h0 (by intro hh; apply hn; simp [hh])
theorem RCell.cutTo {ι : Nat → Nat} {h : Heap} {bd : Nat} {w : World} {m : Nat} {c : Cell} {v : Value} (r : RCell ι h bd w c v) (hl : lowC m c = true) : RCell ι (cutH m h) m w c v := by
 induction r with
 | p hd => exact .p (hd.mono (fun b s _ => stab_cut s) (fun _ _ _ => rfl))
 | junk v => exact .junk v
 | @ptr id ver off v hid hver hv =>
   simp only [lowC, decide_eq_true_eq] at hl
   refine .ptr hl (fun b' e => ?_) (fun b' e e2 => ?_)
   ·obtain ⟨_, b0, h0, rfl⟩ := cutH_some e; exact hver b0 h0
   ·obtain ⟨_, b0, h0, rfl⟩ := cutH_some e; exact hv b0 h0 e2
 | @ro cs A U hs hc =>
   refine .ro A U hs (fun j d hd => ?_)
   obtain ⟨h1, h2, h3⟩ := hc j d hd
   exact ⟨stab_cut h1, h2, h3.mono (fun b s _ => stab_cut s) (fun _ _ _ => rfl)⟩
 | @win id ver off len cap v hid hver hv =>
   simp only [lowC, decide_eq_true_eq] at hl
   refine .win hl (fun b' e => ?_) (fun b' e e2 => ?_)
   ·obtain ⟨_, b0, h0, rfl⟩ := cutH_some e; exact hver b0 h0
   ·obtain ⟨_, b0, h0, rfl⟩ := cutH_some e; exact hv b0 h0 e2
 | clo F C' hF hC h1 h2 ih1 ih2 =>
   simp only [lowC, Bool.and_eq_true] at hl
   exact .clo F C' hF hC (fun i c u hc hu => ih1 i c u hc hu (lowCs_mem hl.1 c (List.mem_of_getElem? hc))) (fun i c u hc hu => ih2 i c u hc hu (lowCs_mem hl.2 c (List.mem_of_getElem? hc)))
theorem RCell.cutC {ι : Nat → Nat} {h : Heap} {bd : Nat} {w : World} (m : Nat) {c : Cell} {v : Value} (r : RCell ι h bd w c v) : RCell ι (cutH m h) m w (Am.cutC m c) v := by
 unfold Am.cutC
 split
 ·rename_i hl; exact r.cutTo hl
 ·exact .junk v
theorem RAV.cutV {ι : Nat → Nat} {h : Heap} {bd : Nat} {w : World} (m : Nat) {c : AV} {v : Value} (r : RAV ι h bd w c v) : RAV ι (cutH m h) m w (Am.cutV m c) v := by
 cases r with
 | one hc => exact .one (hc.cutC m)
 | agg V hl hv =>
   refine .agg V (by simp [hl]) (fun i c u hc hu => ?_)
   rw [List.getElem?_map] at hc
   cases h0 : (_ : List Cell)[i]? with
   | none => rw [h0] at hc; simp at hc
   | some d => rw [h0] at hc; simp at hc; subst hc; exact (hv i d u h0 hu).cutC m
 | tup V hl hv => exact .one (.junk _)
theorem HeapOK.cut {ι : Nat → Nat} {h : Heap} {bd : Nat} {w : World} (m : Nat) (H : HeapOK ι h bd w) : HeapOK ι (cutH m h) m w := by
 refine ⟨fun id b' e hn => ?_, fun i j bi bj hi hj ni nj => ?_⟩
 ·obtain ⟨_, b, hb, rfl⟩ := cutH_some e
  obtain ⟨c, ty, h1, h2, h3⟩ := H.blk id b hb (by intro hh; apply hn; simp [hh])
  refine ⟨c, ty, h1, by simp [h2], fun j d u hd hu => ?_⟩
  simp only [List.getElem?_map] at hd
  cases h0 : b.cells[j]? with
  | none => rw [h0] at hd; simp at hd
  | some d0 => rw [h0] at hd; simp at hd; subst hd; exact (h3 j d0 u h0 hu).cutC m
 ·obtain ⟨_, b, hb, rfl⟩ := cutH_some hi
  obtain ⟨_, b2, hb2, rfl⟩ := cutH_some hj
  exact H.inj i j b b2 hb hb2 (by intro hh; apply ni; simp [hh]) (by intro hh; apply nj; simp [hh])
set_option linter.unusedVariables false in
theorem Inv.cut {C : Ctx} {ι : Nat → Nat} {s : St} {a : Act} {w : World} (I : Inv C ι s a w) (n : Nat) (hn : n ≤ s.n) : Inv C ι (s.cut C n) a w where
 outer id hid b' e := by
  obtain ⟨_, b, hb, rfl⟩ := cutH_some e
  obtain ⟨b0, h0, h1, h2⟩ := I.outer id hid b hb
  refine ⟨b0, h0, h1, ?_⟩
  rcases h2 with ⟨h2, h3⟩ | ⟨h2, h3⟩
  ·exact .inl ⟨by simp [h2], h3⟩
  ·exact .inr ⟨h2, fun hn => h3 (by intro hh; apply hn; simp [hh])⟩
 fresh id hid b' e hne := by
  obtain ⟨_, b, hb, rfl⟩ := cutH_some e
  exact I.fresh id hid b hb (by intro hh; apply hne; simp [hh])
 bound id hid := by
  simp only [St.cut] at hid ⊢
  unfold cutH
  rw [if_neg (by omega)]
 heap := I.heap.cut _
 tmps t := (I.tmps t).cutV _
 ntmps := I.ntmps
 defers := I.defers
 keeps := I.keeps
structure Post (ι : Nat → Nat) (h : Heap) (b : Nat) (w : World) (m : Nat) (ι' : Nat → Nat) (h' : Heap) (w' : World) : Prop where
 outer : ∀ id, id < b → ∀ b', h' id = some b' → ∃ b0, h id = some b0 ∧ Went w.heap.size b0 b' (ι id) (ι' id)
 fresh : ∀ id, b ≤ id → ∀ b', h' id = some b' → b'.cells ≠ [] → w.heap.size ≤ ι' id
 bound : ∀ id, b + m ≤ id → h' id = none
 heap : HeapOK ι' h' (b + m) w'
 keeps : Keeps ι h w w'
def RAVs (ι : Nat → Nat) (h : Heap) (bd : Nat) (w : World) (as : List AV) (vs : List Value) : Prop :=
 vs.length = as.length ∧ ∀ (i : Nat) (c : AV) (u : Value), as[i]? = some c → vs[i]? = some u → RAV ι h bd w c u
def ACalls (P : Program) (f : FuncId) (args : List AV) (h : Heap) (b m : Nat) (R : AV → Heap → Prop) : Prop :=
 ∀ ι w vs, (∀ id, b ≤ id → h id = none) → HeapOK ι h b w → RAVs ι h b w args vs →
   Calls P f vs.toArray w fun e w' => ∃ v r h' ι', e = .returned v ∧ R r h' ∧ Post ι h b w m ι' h' w' ∧ RAV ι' h' (b + m) w' r v
theorem ACalls.mono {P : Program} {f : FuncId} {args : List AV} {h : Heap} {b m : Nat} {R R' : AV → Heap → Prop} (c : ACalls P f args h b m R) (hr : ∀ r h', R r h' → R' r h') : ACalls P f args h b m R' :=
 fun ι w vs hb hh ha => (c ι w vs hb hh ha).mono fun _ _ ⟨v, r, h', ι', he, hR, hp, hv⟩ => ⟨v, r, h', ι', he, hr r h' hR, hp, hv⟩
def Ends (P : Program) (C : Ctx) (fn : Func) (m : Nat) (R : AV → Heap → Prop) (s : St) : Prop :=
 ∀ a w ι, Inv C ι s a w → ∃ v r h' ι', (results fn a.tmps).run P w = .ok v w ∧ R r h' ∧ Post C.ι C.h C.b C.w m ι' h' w ∧ RAV ι' h' (C.b + m) w r v
def bodyQ (P : Program) (C : Ctx) (fn : Func) (m : Nat) (R : AV → Heap → Prop) : Exit → St → Prop
 | .normal, s | .ret, s => Ends P C fn m R s
 | _, _ => False
def argsT (args : List AV) : Nat → AV := fun i => args.getD i (.one .junk)
theorem Inv.entry {N : Nat} {args : List AV} {h : Heap} {b : Nat} {ι : Nat → Nat} {w : World} {vs : List Value} (hn : args.length ≤ N) (hbd : ∀ id, b ≤ id → h id = none) (hh : HeapOK ι h b w) (ha : RAVs ι h b w args vs) :
  Inv ⟨N, b, ι, h, w, x0⟩ ι ⟨argsT args, h, 0⟩ { tmps := vs.toArray ++ Array.replicate (N - vs.toArray.size) undef, defers := [] } w := by
 refine ⟨fun id _ b' e => ⟨b', e, .refl _ _ _⟩, fun id hid b' e hne => ?_, fun id hid => hbd id (by simpa using hid), by simpa using hh, fun t => ?_, ?_, rfl, .refl _ _ _⟩
 ·have e1 : h id = some b' := e
  rw [hbd id hid] at e1; cases e1
 ·show RAV ι h (b + 0) w (argsT args t) _
  obtain ⟨hl, hv⟩ := ha
  rcases Nat.lt_or_ge t args.length with hlt | hge
  ·have e1 : args[t]? = some (args[t]) := List.getElem?_eq_getElem hlt
   have e2 : vs[t]? = some (vs[t]'(hl ▸ hlt)) := List.getElem?_eq_getElem (hl ▸ hlt)
   have := hv t _ _ e1 e2
   have e3 : argsT args t = args[t] := by simp [argsT, List.getD, e1]
   have e4 : (vs.toArray ++ Array.replicate (N - vs.toArray.size) undef).getD t undef = vs[t]'(hl ▸ hlt) := by
    simp [Array.getD, hl, hlt]
    omega
   rw [e3, e4]
   exact this
  ·have e3 : argsT args t = .one .junk := by simp [argsT, List.getD, List.getElem?_eq_none hge]
   rw [e3]
   exact .one (.junk _)
 ·have hl := ha.1
  simp; omega
theorem ACalls.enter {P : Program} {f : FuncId} {fn : Func} {c : Code} {args : List AV} {h : Heap} {b m : Nat} {R : AV → Heap → Prop}
  (hf : P.funcs[f]? = some fn) (hb : fn.body = some c) (hn : args.length ≤ fn.ntmps)
  (hw : ∀ (ι : Nat → Nat) (w : World), (∀ id, b ≤ id → h id = none) → HeapOK ι h b w → AWP P ⟨fn.ntmps, b, ι, h, w, x0⟩ c (bodyQ P ⟨fn.ntmps, b, ι, h, w, x0⟩ fn m R) ⟨argsT args, h, 0⟩) : ACalls P f args h b m R := by
 intro ι w vs hbd hh ha
 refine calls_of_wp hf hb ?_
 have I := Inv.entry (N := fn.ntmps) hn hbd hh ha
 refine wp_mono (wpIn_wide.1 (hw ι w hbd hh _ w ι I)) ?_
 rintro e a' w' (⟨s', ι', q, I'⟩ | ⟨_, he⟩)
 case inr => exact he.elim
 cases e <;> first | exact q.elim | skip
 all_goals
  obtain ⟨v, r, h', ι2, hr, hR, hp, hv⟩ := q a' w' ι' I'
  exact ⟨I'.defers, v, hr, v, r, h', ι2, rfl, hR, hp, hv⟩
set_option linter.unusedSimpArgs false
set_option linter.unusedVariables false
set_option linter.unnecessarySimpa false
open Go
def updT (t : Nat → AV) (d : Nat) (v : AV) : Nat → AV := fun i => if i = d then v else t i
theorem updT_same (t : Nat → AV) (d : Nat) (v : AV) : updT t d v d = v := by simp [updT]
theorem updT_ne (t : Nat → AV) (d i : Nat) (v : AV) (e : i ≠ d) : updT t d v i = t i := by simp [updT, e]
def putT (t : Nat → AV) (d : Option Tmp) (v : AV) : Nat → AV :=
 match d with
 | some d => updT t d v
 | none => t
def dstOK (N : Nat) (d : Option Tmp) : Prop :=
 match d with
 | some d => d < N
 | none => True
theorem Inv.put {C : Ctx} {ι : Nat → Nat} {s : St} {a : Act} {w : World} (I : Inv C ι s a w) {d : Option Tmp} (hd : dstOK C.N d) {av : AV} {v : Value} (r : RAV ι s.h (C.b + s.n) w av v) :
  Inv C ι ⟨putT s.t d av, s.h, s.n⟩ (a.put d v) w := by
 cases d with
 | none => exact I
 | some d =>
   refine ⟨I.outer, I.fresh, I.bound, I.heap, fun t => ?_, by simpa [Act.put] using I.ntmps, I.defers, I.keeps⟩
   have hlt : d < a.tmps.size := by rw [I.ntmps]; exact hd
   show RAV ι s.h (C.b + s.n) w (updT s.t d av t) ((a.tmps.setIfInBounds d v).getD t undef)
   by_cases e : t = d
   ·subst e
    rw [updT_same]
    have : (a.tmps.setIfInBounds t v).getD t undef = v := by simp [Array.getD, hlt]
    rw [this]; exact r
   ·rw [updT_ne _ _ _ _ e]
    have : (a.tmps.setIfInBounds d v).getD t undef = a.tmps.getD t undef := by
     simp only [Array.getD_eq_getD_getElem?, Array.getElem?_setIfInBounds]
     rw [if_neg (fun h => e h.symm)]
    rw [this]; exact I.tmps t
def ren (ι : Nat → Nat) (id g : Nat) : Nat → Nat := fun i => if i = id then g else ι i
theorem ren_same (ι : Nat → Nat) (id g : Nat) : ren ι id g id = g := by simp [ren]
theorem ren_ne (ι : Nat → Nat) (id g i : Nat) (e : i ≠ id) : ren ι id g i = ι i := by simp [ren, e]
theorem HeapOK.lt {ι : Nat → Nat} {h : Heap} {bd : Nat} {w : World} (H : HeapOK ι h bd w) {id : Nat} {b : Blk} (e : h id = some b) (n : b.cells ≠ []) : ι id < w.heap.size := by
 obtain ⟨c, ty, h1, _⟩ := H.blk id b e n
 rcases Nat.lt_or_ge (ι id) w.heap.size with h' | h'
 ·exact h'
 ·rw [Array.getElem?_eq_none h'] at h1; cases h1
theorem heap_alloc_old (w : World) (o : Obj) (b : Nat) (hb : b < w.heap.size) : (w.alloc o).heap[b]? = w.heap[b]? := by
 simp only [World.alloc, Array.getElem?_push]
 rw [if_neg (by omega)]
theorem heap_alloc_at (w : World) (o : Obj) : (w.alloc o).heap[w.heap.size]? = some o := by
 show (w.heap.push o)[w.heap.size]? = some o
 simp
theorem Inv.place {C : Ctx} {ι : Nat → Nat} {s : St} {a : Act} {w : World} (I : Inv C ι s a w) (id n' : Nat) (hn : s.n ≤ n') (hhi : id < C.b + n') (ver : Nat)
  (hver : ∀ b, s.h id = some b → b.ver < ver) (hnew : s.h id = none → C.b + s.n ≤ id) (cs : List Cell) (V : Array Value) (ty : TypeId) (hV : V.size = cs.length)
  (hr : ∀ (j : Nat) (d : Cell) (u : Value), cs[j]? = some d → V[j]? = some u → RCell ι s.h (C.b + s.n) w d u) :
  Moves ι s.h (C.b + s.n) w (ren ι id w.heap.size) (upd s.h id ⟨ver, cs⟩) (C.b + n') (w.alloc (.cells V ty)) ∧
  Inv C (ren ι id w.heap.size) ⟨s.t, upd s.h id ⟨ver, cs⟩, n'⟩ a (w.alloc (.cells V ty)) := by
 have M : Moves ι s.h (C.b + s.n) w (ren ι id w.heap.size) (upd s.h id ⟨ver, cs⟩) (C.b + n') (w.alloc (.cells V ty)) := by
  refine ⟨by omega, fun b hs hb i blk e ne => ?_, fun b _ hb => heap_alloc_old w _ b hb, fun i hi b' e => ?_⟩
  ·by_cases hi : i = id
   ·subst hi; rw [ren_same]; omega
   ·rw [ren_ne _ _ _ _ hi]; rw [upd_ne _ _ _ _ hi] at e; exact hs i blk e ne
  ·by_cases h : i = id
   ·subst h
    rw [upd_same] at e
    cases hb : s.h i with
    | none => have := hnew hb; omega
    | some b => have := hver b hb; injection e with e; subst e; exact ⟨b, rfl, Nat.le_of_lt this, fun h => by have h' : b.ver = ver := h; omega⟩
   ·rw [upd_ne _ _ _ _ h] at e; exact ⟨b', e, Nat.le_refl _, fun _ => ren_ne _ _ _ _ h⟩
 refine ⟨M, ⟨fun i hi b' e => ?_, fun i hi b' e ne => ?_, fun i hi => ?_, ⟨fun i b e ne => ?_, fun i j bi bj hi hj ni nj hij => ?_⟩, fun t => (I.tmps t).move M, I.ntmps, I.defers, ?_⟩⟩
 ·have e' : upd s.h id ⟨ver, cs⟩ i = some b' := e
  by_cases h : i = id
  ·subst h
   rw [upd_same] at e'
   injection e' with e'
   subst e'
   rw [ren_same]
   cases hb : s.h i with
   | none => have := hnew hb; omega
   | some b =>
     obtain ⟨b0, k0, k1⟩ := I.outer i hi b hb
     have h1 := k1.1
     have h2 := hver b hb
     refine ⟨b0, k0, ?_, .inr ⟨?_, fun _ => I.keeps.size⟩⟩ <;> simp only <;> omega
  ·rw [upd_ne _ _ _ _ h] at e'
   rw [ren_ne _ _ _ _ h]
   exact I.outer i hi b' e'
 ·have e' : upd s.h id ⟨ver, cs⟩ i = some b' := e
  by_cases h : i = id
  ·subst h; rw [ren_same]; exact I.keeps.size
  ·rw [upd_ne _ _ _ _ h] at e'; rw [ren_ne _ _ _ _ h]; exact I.fresh i hi b' e' ne
 ·have hi' : C.b + n' ≤ i := hi
  show upd s.h id ⟨ver, cs⟩ i = none
  rw [upd_ne _ _ _ _ (by omega)]
  exact I.bound i (by omega)
 ·have e' : upd s.h id ⟨ver, cs⟩ i = some b := e
  by_cases h : i = id
  ·subst h
   rw [upd_same] at e'
   injection e' with e'
   subst e'
   rw [ren_same]
   exact ⟨V, ty, heap_alloc_at w _, hV, fun j d u hd hu => (hr j d u hd hu).move M⟩
  ·rw [upd_ne _ _ _ _ h] at e'
   obtain ⟨c, ty', h1, h2, h3⟩ := I.heap.blk i b e' ne
   rw [ren_ne _ _ _ _ h]
   exact ⟨c, ty', (heap_alloc_old w _ _ (I.heap.lt e' ne)).trans h1, h2, fun j d u hd hu => (h3 j d u hd hu).move M⟩
 ·have hi' : upd s.h id ⟨ver, cs⟩ i = some bi := hi
  have hj' : upd s.h id ⟨ver, cs⟩ j = some bj := hj
  by_cases h : i = id
  ·by_cases h2 : j = id
   ·rw [h, h2]
   ·subst h
    rw [upd_ne _ _ _ _ h2] at hj'
    rw [ren_same, ren_ne _ _ _ _ h2] at hij
    have := I.heap.lt hj' nj
    omega
  ·rw [upd_ne _ _ _ _ h] at hi'
   by_cases h2 : j = id
   ·subst h2
    rw [ren_same, ren_ne _ _ _ _ h] at hij
    have := I.heap.lt hi' ni
    omega
   ·rw [upd_ne _ _ _ _ h2] at hj'
    rw [ren_ne _ _ _ _ h, ren_ne _ _ _ _ h2] at hij
    exact I.heap.inj i j bi bj hi' hj' ni nj hij
 ·refine ⟨by have := I.keeps.size; simp; omega, I.keeps.os, I.keeps.output, fun b hs hb => ?_⟩
  rw [heap_alloc_old w _ b (by have := I.keeps.size; omega)]
  exact I.keeps.old b hs hb
theorem Inv.write {C : Ctx} {ι : Nat → Nat} {s : St} {a : Act} {w : World} (I : Inv C ι s a w) (id : Nat) (b : Blk) (hb : s.h id = some b) (hne : b.cells ≠ []) (ver : Nat)
  (hver : b.ver ≤ ver) (cs : List Cell) (V : Array Value) (hl : cs.length = b.cells.length) (hV : V.size = cs.length)
  (hr : ∀ (j : Nat) (d : Cell) (u : Value), cs[j]? = some d → V[j]? = some u → RCell ι s.h (C.b + s.n) w d u) :
  Moves ι s.h (C.b + s.n) w ι (upd s.h id ⟨ver, cs⟩) (C.b + s.n) (w.setRow (ι id) V) ∧
  Inv C ι ⟨s.t, upd s.h id ⟨ver, cs⟩, s.n⟩ a (w.setRow (ι id) V) := by
 obtain ⟨c0, ty0, g1, g2, g3⟩ := I.heap.blk id b hb hne
 have hcs : cs ≠ [] := by intro h; rw [h] at hl; exact hne (List.eq_nil_of_length_eq_zero hl.symm)
 have hle : b.ver ≤ ver := hver
 have M : Moves ι s.h (C.b + s.n) w ι (upd s.h id ⟨ver, cs⟩) (C.b + s.n) (w.setRow (ι id) V) := by
  refine ⟨Nat.le_refl _, fun b' hs hb' i blk e ne => ?_, fun b' hs hb' => ?_, fun i hi b' e => ?_⟩
  ·by_cases h : i = id
   ·subst h; exact hs i b hb hne
   ·rw [upd_ne _ _ _ _ h] at e; exact hs i blk e ne
  ·exact setRow_other w _ _ V (fun e => hs id b hb hne e.symm)
  ·by_cases h : i = id
   ·subst h
    rw [upd_same] at e
    injection e with e; subst e; exact ⟨b, hb, hle, fun _ => rfl⟩
   ·rw [upd_ne _ _ _ _ h] at e; exact ⟨b', e, Nat.le_refl _, fun _ => rfl⟩
 refine ⟨M, ⟨fun i hi b' e => ?_, fun i hi b' e ne => ?_, fun i hi => ?_, ⟨fun i b' e ne => ?_, fun i j bi bj hi hj ni nj hij => ?_⟩, fun t => (I.tmps t).move M, I.ntmps, I.defers, ?_⟩⟩
 ·have e' : upd s.h id ⟨ver, cs⟩ i = some b' := e
  by_cases h : i = id
  ·subst h
   rw [upd_same] at e'
   injection e' with e'; subst e'
   obtain ⟨b0, k0, k1⟩ := I.outer i hi b hb
   exact ⟨b0, k0, k1.trans (G' := C.w.heap.size) ⟨hver, .inl ⟨hl.symm, rfl⟩⟩ (Nat.le_refl _)⟩
  ·rw [upd_ne _ _ _ _ h] at e'; exact I.outer i hi b' e'
 ·have e' : upd s.h id ⟨ver, cs⟩ i = some b' := e
  by_cases h : i = id
  ·subst h; exact I.fresh i hi b hb hne
  ·rw [upd_ne _ _ _ _ h] at e'; exact I.fresh i hi b' e' ne
 ·show upd s.h id ⟨ver, cs⟩ i = none
  have : i ≠ id := by intro h; subst h; rw [I.bound i hi] at hb; cases hb
  rw [upd_ne _ _ _ _ this]
  exact I.bound i hi
 ·have e' : upd s.h id ⟨ver, cs⟩ i = some b' := e
  by_cases h : i = id
  ·subst h
   rw [upd_same] at e'
   injection e' with e'
   subst e'
   exact ⟨V, ty0, setRow_heap w _ _ V ty0 _ g1, hV, fun j d u hd hu => (hr j d u hd hu).move M⟩
  ·rw [upd_ne _ _ _ _ h] at e'
   obtain ⟨c, ty', h1, h2, h3⟩ := I.heap.blk i b' e' ne
   have hd : ι i ≠ ι id := fun hh => h (I.heap.inj i id b' b e' hb ne hne hh)
   exact ⟨c, ty', (setRow_other w _ _ V hd).trans h1, h2, fun j d u hd hu => (h3 j d u hd hu).move M⟩
 ·have hi' : upd s.h id ⟨ver, cs⟩ i = some bi := hi
  have hj' : upd s.h id ⟨ver, cs⟩ j = some bj := hj
  have gi : ∃ b', s.h i = some b' ∧ b'.cells ≠ [] := by
   by_cases h : i = id
   ·subst h; exact ⟨b, hb, hne⟩
   ·rw [upd_ne _ _ _ _ h] at hi'; exact ⟨bi, hi', ni⟩
  have gj : ∃ b', s.h j = some b' ∧ b'.cells ≠ [] := by
   by_cases h : j = id
   ·subst h; exact ⟨b, hb, hne⟩
   ·rw [upd_ne _ _ _ _ h] at hj'; exact ⟨bj, hj', nj⟩
  obtain ⟨x, hx, nx⟩ := gi
  obtain ⟨y, hy, ny⟩ := gj
  exact I.heap.inj i j x y hx hy nx ny hij
 ·refine ⟨by have := I.keeps.size; simpa using this, I.keeps.os, I.keeps.output, fun x hs hx => ?_⟩
  have hd : x ≠ ι id := by
   intro hh
   rcases Nat.lt_or_ge id C.b with h | h
   ·obtain ⟨b0, k0, k1, k2⟩ := I.outer id h b hb
    rcases k2 with ⟨k2, k3⟩ | ⟨_, k3⟩
    ·exact hs id b0 k0 (len_nil k2 hne) (by rw [← k3]; exact hh.symm)
    ·have := k3 hne; omega
   ·have := I.fresh id h b hb hne
    omega
  rw [setRow_other w _ _ V hd]
  exact I.keeps.old x hs hx
theorem Inv.drew {C : Ctx} {ι : Nat → Nat} {s : St} {a : Act} {w : World} (I : Inv C ι s a w) : Inv C ι s a w.drew := by
 have M : Moves ι s.h (C.b + s.n) w ι s.h (C.b + s.n) w.drew := .world (fun _ _ _ => rfl)
 refine ⟨I.outer, I.fresh, I.bound, ⟨fun id b e ne => ?_, I.heap.inj⟩, fun t => (I.tmps t).move M, I.ntmps, I.defers, ⟨I.keeps.size, I.keeps.os, I.keeps.output, I.keeps.old⟩⟩
 obtain ⟨c, ty, h1, h2, h3⟩ := I.heap.blk id b e ne
 exact ⟨c, ty, h1, h2, fun j d u hd hu => (h3 j d u hd hu).move M⟩
def tsz (P : Program) (t : TypeId) : Option Nat := (P.info? t).map (·.size)
def tagg (P : Program) (t : TypeId) : Option Bool :=
 match P.underlying t with
 | some (.struct _) | some (.array _ _) => some true
 | some _ => some false
 | none => none
def slE (P : Program) (t : TypeId) : Option TypeId :=
 match P.underlying t with
 | some (.slice e) => some e
 | _ => none
def slS (P : Program) (t : TypeId) : Option Nat := (slE P t).bind (tsz P)
def arE (P : Program) (t : TypeId) : Option (Nat × TypeId) :=
 match P.underlying t with
 | some (.array n e) => some (n, e)
 | _ => none
def arS (P : Program) (t : TypeId) : Option (Nat × Nat) := (arE P t).bind fun (n, e) => (tsz P e).map fun z => (n, z)
def fldO (P : Program) (s : TypeId) (f : Nat) : Option Nat :=
 match P.underlying s with
 | some (.struct fs) => match fs[f]? with
   | some x => match tsz P x.type with
     | some (_ + 1) => some x.offset
     | _ => none
   | none => none
 | _ => none
def fldT (P : Program) (s : TypeId) (f : Nat) : Option (TypeId × Nat) :=
 match P.underlying s with
 | some (.struct fs) => (fs[f]?).map fun x => (x.type, x.offset)
 | _ => none
def isStr (P : Program) (t : TypeId) : Bool :=
 match P.underlying t with
 | some .string => true
 | _ => false
def isFlt (P : Program) (t : TypeId) : Bool :=
 match P.underlying t with
 | some (.float _) => true
 | _ => false
def intK (P : Program) (t : TypeId) : Option IntKind :=
 match P.underlying t with
 | some (.int k) => some k
 | _ => none
def hasU (P : Program) (t : TypeId) : Bool := (P.underlying t).isSome
def isBoolT (P : Program) (t : TypeId) : Bool :=
 match P.underlying t with
 | some .bool => true
 | _ => false
def partA (P : Program) (t : TypeId) (cs : List Cell) (off : Nat) : Option AV :=
 match tagg P t with
 | some true => match tsz P t with
   | some n => if off + n ≤ cs.length then some (.agg ((cs.drop off).take n)) else none
   | none => none
 | some false => (cs[off]?).map .one
 | none => none
def ldA (P : Program) (t : TypeId) (h : Heap) (x : AV) : Option AV :=
 match x with
 | .one (.ptr id ver off) => match h id with
   | some b => if b.ver = ver then partA P t b.cells off else none
   | none => none
 | .one (.ro cs) => partA P t (cs.map .p) 0
 | _ => none
def liveB (h : Heap) (id ver : Nat) : Bool :=
 match h id with
 | some b => decide (b.ver = ver)
 | none => false
def fldA (P : Program) (s : TypeId) (h : Heap) (x : AV) (f : Nat) : Option AV :=
 match fldO P s f with
 | some o => match x with
   | .one (.ptr id ver off) => if liveB h id ver = true then some (.one (.ptr id ver (off + o))) else none
   | .one (.ro cs) => some (.one (.ro (cs.drop o)))
   | _ => none
 | none => none
def idxA (P : Program) (t : TypeId) (h : Heap) (x i : AV) : Option AV :=
 match i with
 | .one (.p (.v (.int _ i))) => match x with
   | .one (.p (.sl sz es)) => match slS P t with
     | some z => if z = sz ∧ 0 ≤ i ∧ i < es.length then some (.one (.ro (es.getD i.toNat []))) else none
     | none => none
   | .one (.win id ver off len _) => match slS P t with
     | some z => if liveB h id ver = true ∧ 0 ≤ i ∧ i < len then some (.one (.ptr id ver (off + i.toNat * z))) else none
     | none => none
   | .one (.ptr id ver off) => match arS P t with
     | some (n, z) => if liveB h id ver = true ∧ 0 ≤ i ∧ i < n then some (.one (.ptr id ver (off + i.toNat * z))) else none
     | none => none
   | _ => none
 | _ => none
def strAt (s : ByteArray) (i : Nat) : Int := ((s.data.toList.getD i 0).toNat : Int)
def idxV (P : Program) (t : TypeId) (x i : AV) : Option AV :=
 match i with
 | .one (.p (.v (.int _ i))) => match x with
   | .one (.p (.v (.string s))) => if isStr P t = true ∧ 0 ≤ i ∧ i < s.size then some (.one (.p (.v (.int .u8 (strAt s i.toNat))))) else none
   | .agg cs => match arE P t with
     | some (n, e) => match tsz P e with
       | some z => if 0 ≤ i ∧ i < n then partA P e cs (i.toNat * z) else none
       | none => none
     | none => none
   | _ => none
 | _ => none
def andI (k : IntKind) (a b : Int) : Int := k.wrap ((BitVec.ofInt k.bits a &&& BitVec.ofInt k.bits b).toNat)
def orI (k : IntKind) (a b : Int) : Int := k.wrap ((BitVec.ofInt k.bits a ||| BitVec.ofInt k.bits b).toNat)
def xorI (k : IntKind) (a b : Int) : Int := k.wrap ((BitVec.ofInt k.bits a ^^^ BitVec.ofInt k.bits b).toNat)
def andNotI (k : IntKind) (a b : Int) : Int := k.wrap ((BitVec.ofInt k.bits a &&& ~~~ (BitVec.ofInt k.bits b)).toNat)
def notI (k : IntKind) (n : Int) : Int := k.wrap ((BitVec.ofInt k.bits (if k.signed then -1 else k.max) ^^^ BitVec.ofInt k.bits n).toNat)
def intB (op : BinOp) (k : IntKind) (a b : Int) : Option Value :=
 match op with
 | .add => some (.int k (k.wrap (a + b)))
 | .sub => some (.int k (k.wrap (a - b)))
 | .mul => some (.int k (k.wrap (a * b)))
 | .quo => if b = 0 then none else some (.int k (k.wrap (a.tdiv b)))
 | .rem => if b = 0 then none else some (.int k (a.tmod b))
 | .and => some (.int k (andI k a b))
 | .or => some (.int k (orI k a b))
 | .xor => some (.int k (xorI k a b))
 | .andNot => some (.int k (andNotI k a b))
 | .eql => some (.bool (decide (a = b)))
 | .neq => some (.bool (!decide (a = b)))
 | .lss => some (.bool (decide (a < b)))
 | .leq => some (.bool (decide (a ≤ b)))
 | .gtr => some (.bool (decide (b < a)))
 | .geq => some (.bool (decide (b ≤ a)))
 | _ => none
def shiftB (op : BinOp) (k : IntKind) (a b : Int) : Option Value :=
 match op with
 | .shl => if b < 0 then none else some (.int k (k.wrap (a * 2 ^ (min b.toNat k.bits))))
 | .shr => if b < 0 then none else some (.int k (a.fdiv (2 ^ (min b.toNat k.bits))))
 | _ => none
def strB (op : BinOp) (x y : ByteArray) : Option Value :=
 match op with
 | .add => if x.size + y.size ≤ 9223372036854775807 then some (.string (x ++ y)) else none
 | .eql => some (.bool (decide (x.data.toList = y.data.toList)))
 | .neq => some (.bool (!decide (x.data.toList = y.data.toList)))
 | .lss => some (.bool (Op.bytesLess x.data.toList y.data.toList))
 | .leq => some (.bool (Op.bytesLess x.data.toList y.data.toList || decide (x.data.toList = y.data.toList)))
 | .gtr => some (.bool !(Op.bytesLess x.data.toList y.data.toList || decide (x.data.toList = y.data.toList)))
 | .geq => some (.bool !(Op.bytesLess x.data.toList y.data.toList))
 | _ => none
def floatB (op : BinOp) (k : FloatKind) (a b : Nat) : Option Value :=
 match op with
 | .eql => some (.bool (k.format.order a b == some .eq))
 | .neq => some (.bool (k.format.order a b != some .eq))
 | .lss => some (.bool (k.format.order a b == some .lt))
 | .gtr => some (.bool (k.format.order a b == some .gt))
 | _ => none
def isShift : BinOp → Bool
 | .shl | .shr => true
 | _ => false
def isPtrT (P : Program) (t : TypeId) : Bool :=
 match P.underlying t with
 | some (.pointer _) => true
 | _ => false
def ptrB (op : BinOp) (r : Bool) : Option Value :=
 match op with
 | .eql => some (.bool r)
 | .neq => some (.bool !r)
 | _ => none
def binV (P : Program) (t : TypeId) (op : BinOp) (x y : Value) : Option Value :=
 match x, y with
 | .int k a, .int k' b => if isShift op then shiftB op k a b else if k = k' then intB op k a b else none
 | .string a, .string b => strB op a b
 | .bool a, .bool b => if isBoolT P t = true then (match op with
   | .eql => some (.bool (a == b))
   | .neq => some (.bool (a != b))
   | _ => none) else none
 | .float k a, .float k' b => if k = k' then floatB op k a b else none
 | .pointer none, .pointer none => if isPtrT P t = true then ptrB op true else none
 | _, _ => none
def flds (P : Program) (t : TypeId) : Option (List (Nat × TypeId)) :=
 if P.stoodInHeld t = false ∧ P.eqGuardType P.depth t = false then match P.underlying t with
  | some (.struct fs) => if fs.toList.all (fun f => f.name != "_") = true then some (fs.toList.map fun f => (f.offset, f.type)) else none
  | _ => none
 else none
def eqV (P : Program) (t : TypeId) (a b : Value) : Option Bool :=
 match a, b with
 | .int k x, .int k' y => if k = k' ∧ (intK P t).isSome = true then some (decide (x = y)) else none
 | .string x, .string y => if isStr P t = true then some (decide (x.data.toList = y.data.toList)) else none
 | .bool x, .bool y => if isBoolT P t = true then some (x == y) else none
 | .float k x, .float k' y => if k = k' ∧ isFlt P t = true then some (k.format.order x y == some .eq) else none
 | _, _ => none
def eqFs (P : Program) (rec : TypeId → AV → AV → Option Bool) : List (Nat × TypeId) → List Cell → List Cell → Option Bool
 | [], _, _ => some true
 | (o, t) :: fs, cs, ds => match partA P t cs o, partA P t ds o with
   | some a, some b => match rec t a b, eqFs P rec fs cs ds with
     | some r, some q => some (r && q)
     | _, _ => none
   | _, _ => none
def eqAV (P : Program) : Nat → TypeId → AV → AV → Option Bool
 | 0, _, _, _ => none
 | f + 1, t, x, y => match x, y with
   | .one (.p (.v a)), .one (.p (.v b)) => eqV P t a b
   | .agg cs, .agg ds => match flds P t with
     | some fs => eqFs P (eqAV P f) fs cs ds
     | none => none
   | _, _ => none
def eqR (op : BinOp) (r : Bool) : Option AV :=
 match op with
 | .eql => some (.one (.p (.v (.bool r))))
 | .neq => some (.one (.p (.v (.bool !r))))
 | _ => none
def binA (P : Program) (h : Heap) (ty : TypeId) (op : BinOp) (x y : AV) : Option AV :=
 match x, y with
 | .one (.ptr id ver _), .one (.p (.v (.pointer none))) => if isPtrT P ty = true ∧ liveB h id ver = true then (ptrB op false).map fun v => .one (.p (.v v)) else none
 | .one (.p (.v a)), .one (.p (.v b)) => (binV P ty op a b).map fun v => .one (.p (.v v))
 | .agg cs, .agg ds => (eqAV P 4 ty (.agg cs) (.agg ds)).bind (eqR op)
 | _, _ => none
def unV (op : UnOp) (x : Value) : Option Value :=
 match op, x with
 | .not, .bool b => some (.bool !b)
 | .neg, .int k n => some (.int k (k.wrap (0 - n)))
 | .xor, .int k n => some (.int k (notI k n))
 | _, _ => none
def unA (op : UnOp) (x : AV) : Option AV :=
 match x with
 | .one (.p (.v a)) => (unV op a).map fun v => .one (.p (.v v))
 | _ => none
def octV : PD → Option UInt8
 | .v (.int .u8 n) => if 0 ≤ n ∧ n < 256 then some (UInt8.ofNat n.toNat) else none
 | _ => none
def octE : List (List PD) → Option (List UInt8)
 | [] => some []
 | [x] :: es => match octV x, octE es with
   | some c, some cs => some (c :: cs)
   | _, _ => none
 | _ => none
def octC : List Cell → Option (List UInt8)
 | [] => some []
 | .p x :: es => match octV x, octC es with
   | some c, some cs => some (c :: cs)
   | _, _ => none
 | _ => none
def octT (P : Program) (src dst : TypeId) : Bool :=
 match slE P src with
 | some e => decide (intK P e = some .u8) && isStr P dst
 | none => false
def txtV (o : Option (List UInt8)) : Option AV := o.map fun cs => .one (.p (.v (.string ⟨cs.toArray⟩)))
def convA (P : Program) (h : Heap) (src dst : TypeId) (x : AV) : Option AV :=
 match x with
 | .one (.p (.v (.int _ n))) => match intK P dst with
   | some k => if hasU P src = true then some (.one (.p (.v (.int k (k.wrap n))))) else none
   | none => none
 | .one (.p (.v (.string s))) => if hasU P src = true ∧ isStr P dst = true then some (.one (.p (.v (.string s)))) else none
 | .one (.p (.v (.slice none 0 0))) => if octT P src dst = true then txtV (some []) else none
 | .one (.p (.sl 1 es)) => if octT P src dst = true then txtV (octE es) else none
 | .one (.win id ver off len _) => match h id with
   | some b => if b.ver = ver ∧ octT P src dst = true ∧ off + len ≤ b.cells.length then txtV (octC ((b.cells.drop off).take len)) else none
   | none => none
 | _ => none
def fieldA (P : Program) (t : TypeId) (x : AV) (f : Nat) : Option AV :=
 match x with
 | .agg cs => match fldT P t f with
   | some (u, o) => partA P u cs o
   | none => none
 | _ => none
def intOfA : AV → Option Int
 | .one (.p (.v (.int _ i))) => some i
 | _ => none
def bnd1 (x : AV) (y : Nat) : Option Nat := (intOfA x).bind fun i => if 0 ≤ i ∧ i ≤ (y : Int) then some i.toNat else none
def bndMx (cap : Nat) : Option AV → Option Nat
 | some v => bnd1 v cap
 | none => some cap
def bndHi (len m : Nat) (mx : Bool) : Option AV → Option Nat
 | some v => bnd1 v m
 | none => if mx = true then none else some len
def bndLo (h : Nat) : Option AV → Option Nat
 | some v => bnd1 v h
 | none => some 0
def bndA (len cap : Nat) (lo hi mx : Option AV) : Option (Nat × Nat × Nat) :=
 (bndMx cap mx).bind fun m => (bndHi len m mx.isSome hi).bind fun h => (bndLo h lo).map fun l => (l, h, m)
def slcA (P : Program) (t : TypeId) (h : Heap) (x : AV) (lo hi mx : Option AV) : Option AV :=
 match x with
 | .one (.p (.v (.string s))) => if isStr P t = true ∧ mx.isNone = true then (bndA s.size s.size lo hi none).map fun (l, h, _) => .one (.p (.v (.string (s.extract l h)))) else none
 | .one (.p (.sl sz es)) => match slS P t with
   | some z => if z = sz then (bndA es.length es.length lo hi mx).map fun (l, h, _) => .one (.p (.sl sz ((es.drop l).take (h - l)))) else none
   | none => none
 | .one (.win id ver off len cap) => match slS P t with
   | some z => if liveB h id ver = true then (bndA len cap lo hi mx).map fun (l, h, m) => .one (.win id ver (if m = l then off else off + l * z) (h - l) (m - l)) else none
   | none => none
 | .one (.ptr id ver off) => match arS P t with
   | some (n, z) => if liveB h id ver = true then (bndA n n lo hi mx).map fun (l, h, m) => .one (.win id ver (if m = l then off else off + l * z) (h - l) (m - l)) else none
   | none => none
 | _ => none
def lenA (P : Program) (t : TypeId) (h : Heap) (x : AV) : Option AV :=
 match x with
 | .one (.p (.v (.string s))) => if isStr P t = true then some (.one (.p (.v (.int .i64 s.size)))) else none
 | .one (.p (.v (.slice none 0 0))) => if (slE P t).isSome = true then some (.one (.p (.v (.int .i64 0)))) else none
 | .one (.p (.sl _ es)) => if (slE P t).isSome = true then some (.one (.p (.v (.int .i64 es.length)))) else none
 | .one (.win id ver _ len _) => if liveB h id ver = true ∧ (slE P t).isSome = true then some (.one (.p (.v (.int .i64 len)))) else none
 | _ => none
def capA (P : Program) (t : TypeId) (h : Heap) (x : AV) : Option AV :=
 match x with
 | .one (.p (.v (.slice none 0 0))) => if (slE P t).isSome = true then some (.one (.p (.v (.int .i64 0)))) else none
 | .one (.win id ver _ _ cap) => if liveB h id ver = true ∧ (slE P t).isSome = true then some (.one (.p (.v (.int .i64 cap)))) else none
 | _ => none
def exA (x : AV) (i : Nat) : Option AV :=
 match x with
 | .tup vs => vs[i]?
 | _ => none
def mm2 (mx : Bool) (x y : AV) : Option AV :=
 match x, y with
 | .one (.p (.v (.int k a))), .one (.p (.v (.int k' b))) => if k = k' then some (.one (.p (.v (.int k (bif mx then max a b else min a b))))) else none
 | _, _ => none
def cellsA : AV → List Cell
 | .one c => [c]
 | .agg cs => cs
 | .tup _ => [.junk]
def spl (cells : List Cell) (off : Nat) (cs : List Cell) : List Cell := cells.take off ++ (cs ++ cells.drop (off + cs.length))
def okC (h : Heap) : Cell → Bool
 | .p (.v x) => x.oneCell'
 | .p (.sl _ _) | .p (.slc _ _) | .ro _ | .clo _ _ _ => true
 | .junk => false
 | .ptr id ver _ | .win id ver _ _ _ => liveB h id ver
def fillA (h : Heap) (place : Nat → Option (Nat × Nat)) (cells : List Cell) : List (Nat × AV) → Option (List Cell)
 | [] => some cells
 | (i, v) :: rest => match place i with
   | some (off, size) => match v with
     | .one c => if okC h c = true ∧ size = 1 ∧ off + 1 ≤ cells.length then fillA h place (spl cells off [c]) rest else none
     | .agg cs => if cs.length = size ∧ off + cs.length ≤ cells.length then fillA h place (spl cells off cs) rest else none
     | .tup _ => none
   | none => none
def tzero (P : Program) (t : TypeId) : Option (List Value) := ((P.info? t).bind (·.zero)).map (·.cells.toList)
def stPl (P : Program) (t : TypeId) : Option (List (Nat × Nat)) :=
 match P.underlying t with
 | some (.struct fs) => fs.toList.mapM (fun f => (P.info? f.type).map fun i => (f.offset, i.size))
 | _ => none
def bldA (P : Program) (h : Heap) (t : TypeId) (parts : List (Nat × AV)) : Option AV :=
 match tzero P t with
 | some zs => match arS P t with
   | some (_, z) => (fillA h (fun i => some (i * z, z)) (zs.map fun v => .p (.v v)) parts).map .agg
   | none => match stPl P t with
     | some pl => (fillA h (pl[·]?) (zs.map fun v => .p (.v v)) parts).map .agg
     | none => none
 | none => none
def cellOnes : List AV → Option (List Cell)
 | [] => some []
 | .one c :: r => (cellOnes r).map (c :: ·)
 | _ :: _ => none
def valP (t : Nat → AV) (x : Nat × Operand) : Nat × AV := (x.1, val t x.2)
def nilV (h : Heap) : AV → Option AV
 | .one (.ptr id ver off) => if liveB h id ver = true then some (.one (.ptr id ver off)) else none
 | .one (.ro cs) => some (.one (.ro cs))
 | .one (.clo (.func f) a b) => some (.one (.clo (.func f) a b))
 | _ => none
def isCon (P : Program) (t : TypeId) : Bool :=
 match P.underlying t with
 | some (.interface _) => false
 | some _ => true
 | none => false
def mkIf (P : Program) (t : TypeId) (x : AV) : Option AV :=
 match x with
 | .one (.p (.v v)) => if isCon P t = true then some (.one (.p (.v (.iface t v)))) else none
 | .agg [] => if isCon P t = true then some (.one (.p (.v (.iface t (.agg #[]))))) else none
 | _ => none
def tasA (P : Program) (x : AV) (t : TypeId) (ok : Bool) : Option AV :=
 match x with
 | .one (.p (.v (.iface u v))) => if isCon P t = true ∧ u = t ∧ ok = true then some (.tup [ofV v, .one (.p (.v (.bool true)))]) else none
 | _ => none
def sop (P : Program) (t : Nat → AV) (h : Heap) (o : Oper) : Option AV :=
 match o.op with
 | .move x | .assign x => some (val t x)
 | .pick c a b => match val t c with
   | .one (.p (.v (.bool g))) => some (bif g then val t a else val t b)
   | _ => none
 | .load ty x => ldA P ty h (val t x)
 | .fieldAddr s x f => fldA P s h (val t x) f
 | .field s x f => fieldA P s (val t x) f
 | .indexAddr ty x i => idxA P ty h (val t x) (val t i)
 | .index ty x i => idxV P ty (val t x) (val t i)
 | .binOp op ty x y _ => binA P h ty op (val t x) (val t y)
 | .unOp op _ x => unA op (val t x)
 | .convert s d x => convA P h s d (val t x)
 | .slice ty x lo hi mx => slcA P ty h (val t x) (lo.map (val t)) (hi.map (val t)) (mx.map (val t))
 | .extract x i => exA (val t x) i
 | .nilCheck x => nilV h (val t x)
 | .makeInterface ty x => mkIf P ty (val t x)
 | .typeAssert x _ u ok => tasA P (val t x) u ok
 | .build ty parts => bldA P h ty (parts.toList.map fun (i, x) => (i, val t x))
 | .makeFunc fn first cap => match cellOnes (first.toList.map (val t)), cellOnes (cap.toList.map (val t)) with
   | some a, some b => some (.one (.clo fn a b))
   | _, _ => none
 | .call { callee := .builtin .len, args := args, argTypes := tys } => match args.toList, tys.toList with
   | [x], [ty] => lenA P ty h (val t x)
   | _, _ => none
 | .call { callee := .builtin .cap, args := args, argTypes := tys } => match args.toList, tys.toList with
   | [x], [ty] => capA P ty h (val t x)
   | _, _ => none
 | .call { callee := .builtin .min, args := args, argTypes := _ } => match args.toList with
   | [x, y] => mm2 false (val t x) (val t y)
   | _ => none
 | .call { callee := .builtin .max, args := args, argTypes := _ } => match args.toList with
   | [x, y] => mm2 true (val t x) (val t y)
   | _ => none
 | _ => none
variable {P : Program} {ι : Nat → Nat} {h : Heap} {bd : Nat} {w : World}
theorem tsz_run {t : TypeId} {n : Nat} (e : tsz P t = some n) : (sizeOf t).run P w = .ok n w := by
 unfold tsz at e
 cases hi : P.info? t with
 | none => rw [hi] at e; simp at e
 | some i => rw [hi] at e; simp at e; simp [sizeOf, typeInfo, hi, e]
theorem tagg_run {t : TypeId} {g : Bool} (e : tagg P t = some g) : (isAgg t).run P w = .ok g w := by
 unfold tagg at e
 cases hi : P.underlying t with
 | none => rw [hi] at e; simp at e
 | some i =>
   rw [hi] at e
   cases i <;> simp at e <;> subst e <;> simp [isAgg, run_underlying hi]
theorem slE_run {t e : TypeId} (he : slE P t = some e) : P.underlying t = some (.slice e) := by
 unfold slE at he
 split at he
 ·rename_i h; injection he with he; subst he; exact h
 ·cases he
theorem slS_run {t : TypeId} {z : Nat} (he : slS P t = some z) : ∃ e, P.underlying t = some (.slice e) ∧ tsz P e = some z := by
 unfold slS at he
 cases h : slE P t with
 | none => rw [h] at he; simp at he
 | some e => rw [h] at he; exact ⟨e, slE_run h, by simpa using he⟩
theorem arE_run {t e : TypeId} {n : Nat} (he : arE P t = some (n, e)) : P.underlying t = some (.array n e) := by
 unfold arE at he
 split at he
 ·rename_i h; simp only [Option.some.injEq, Prod.mk.injEq] at he; obtain ⟨rfl, rfl⟩ := he; exact h
 ·cases he
theorem arS_run {t : TypeId} {n z : Nat} (he : arS P t = some (n, z)) : ∃ e, P.underlying t = some (.array n e) ∧ tsz P e = some z := by
 unfold arS at he
 cases h : arE P t with
 | none => rw [h] at he; simp at he
 | some x =>
   obtain ⟨m, e⟩ := x
   rw [h] at he
   simp only [Option.bind_some] at he
   cases h2 : tsz P e with
   | none => rw [h2] at he; simp at he
   | some z' =>
     rw [h2] at he
     simp only [Option.map_some, Option.some.injEq, Prod.mk.injEq] at he
     obtain ⟨rfl, rfl⟩ := he
     exact ⟨e, arE_run h, h2⟩
theorem isStr_run {t : TypeId} (he : isStr P t = true) : P.underlying t = some .string := by
 unfold isStr at he
 split at he
 ·assumption
 ·cases he
theorem fldT_run {t u : TypeId} {f o : Nat} (he : fldT P t f = some (u, o)) : ∃ fs x, P.underlying t = some (.struct fs) ∧ fs[f]? = some x ∧ x.type = u ∧ x.offset = o := by
 unfold fldT at he
 split at he
 ·rename_i fs h
  cases hx : fs[f]? with
  | none => rw [hx] at he; simp at he
  | some x => rw [hx] at he; simp at he; exact ⟨fs, x, h, hx, he.1, he.2⟩
 ·cases he
theorem fldO_run {t : TypeId} {f o : Nat} (he : fldO P t f = some o) : ∃ fs x n, P.underlying t = some (.struct fs) ∧ fs[f]? = some x ∧ tsz P x.type = some (n + 1) ∧ x.offset = o := by
 unfold fldO at he
 split at he
 ·rename_i fs h
  split at he
  ·rename_i x hx
   split at he
   ·rename_i n hn; injection he with he; exact ⟨fs, x, n, h, hx, hn, he⟩
   ·cases he
  ·cases he
 ·cases he
theorem add_none (b o n : Nat) : Addr.add ⟨b, o, none⟩ n = ⟨b, o + n, none⟩ := Addr.add_lit b o n
theorem loadVar_ok {cs : List Cell} {blk B off : Nat} (hc : ∀ (j : Nat) (d : Cell), cs[j]? = some d → ∃ u, w.cell? ⟨blk, B + j, none⟩ = some u ∧ RCell ι h bd w d u)
  {t : TypeId} {av : AV} (e : partA P t cs off = some av) : ∃ v, (loadVar t ⟨blk, B + off, none⟩).run P w = .ok v w ∧ RAV ι h bd w av v := by
 unfold partA at e
 split at e
 ·rename_i hg
  split at e
  ·rename_i n hn
   split at e
   ·rename_i hle
    injection e with e
    subst e
    have hcell : ∀ j, j < n → w.cell? ((⟨blk, B + off, none⟩ : Addr).add j) = some ((w.cell? ⟨blk, B + off + j, none⟩).getD undef) := by
     intro j hj
     obtain ⟨u, hu, _⟩ := hc (off + j) _ (List.getElem?_eq_getElem (by omega))
     rw [add_none, Nat.add_assoc, hu]; rfl
    refine ⟨.agg ((List.range n).map fun j => (w.cell? ⟨blk, B + off + j, none⟩).getD undef).toArray, ?_, ?_⟩
    ·simp only [loadVar, Sem.run_bind, tagg_run hg, Result.andThen, if_true, tsz_run hn, run_loadCells w _ n _ hcell, Sem.run_pure]
    ·refine .agg _ (by simp; omega) (fun i c u hci hu => ?_)
     simp only [List.getElem?_map] at hu
     have hi : i < n := by
      rcases Nat.lt_or_ge i n with h' | h'
      ·exact h'
      ·rw [List.getElem?_eq_none (by simpa using h')] at hu; cases hu
     rw [List.getElem?_take, if_pos hi, List.getElem?_drop] at hci
     obtain ⟨u', hu', hr⟩ := hc (off + i) c hci
     simp [hi, Nat.add_assoc, hu'] at hu
     subst hu
     exact hr
   ·cases e
  ·cases e
 ·rename_i hg
  cases hd : cs[off]? with
  | none => rw [hd] at e; simp at e
  | some d =>
    rw [hd] at e
    simp at e
    subst e
    obtain ⟨u, hu, hr⟩ := hc off d hd
    exact ⟨u, by simp [loadVar, tagg_run hg, hu], .one hr⟩
 ·cases e
theorem part_ok {cs : List Cell} {V : List Value} (hl : V.length = cs.length) (hc : ∀ (j : Nat) (d : Cell) (u : Value), cs[j]? = some d → V[j]? = some u → RCell ι h bd w d u)
  {t : TypeId} {off : Nat} {av : AV} (e : partA P t cs off = some av) : ∃ v, (part t V.toArray off).run P w = .ok v w ∧ RAV ι h bd w av v := by
 unfold partA at e
 split at e
 ·rename_i hg
  split at e
  ·rename_i n hn
   split at e
   ·rename_i hle
    injection e with e
    subst e
    refine ⟨.agg ((V.drop off).take n).toArray, ?_, ?_⟩
    ·simp only [part, Sem.run_bind, tagg_run hg, Result.andThen, if_true, tsz_run hn, Sem.run_pure]
     congr 2
     rw [List.extract_toArray]
     simp
    ·refine .agg _ (by simp [hl]) (fun i c u hci hu => ?_)
     have hi : i < n := by
      rcases Nat.lt_or_ge i n with h' | h'
      ·exact h'
      ·rw [List.getElem?_take, if_neg (by omega)] at hu; cases hu
     rw [List.getElem?_take, if_pos hi, List.getElem?_drop] at hci hu
     exact hc _ c u hci hu
   ·cases e
  ·cases e
 ·rename_i hg
  cases hd : cs[off]? with
  | none => rw [hd] at e; simp at e
  | some d =>
    rw [hd] at e
    simp at e
    subst e
    have hlt : off < V.length := by rw [hl]; exact (List.getElem?_eq_some_iff.1 hd).1
    have hu : V[off]? = some V[off] := List.getElem?_eq_getElem hlt
    exact ⟨V[off], by simp [part, tagg_run hg, hu], .one (hc _ _ _ hd hu)⟩
 ·cases e
theorem ptr_inv {id ver off : Nat} {X : Value} (r : RAV ι h bd w (.one (.ptr id ver off)) X) {b : Blk} (hb : h id = some b) (hv : b.ver = ver) : X = .pointer (some ⟨ι id, off, none⟩) := by
 cases r with
 | one hc => cases hc with | ptr _ _ hv' => exact hv' b hb hv
theorem ro_inv {cs : List PD} {X : Value} (r : RAV ι h bd w (.one (.ro cs)) X) : ∃ (A : Addr) (U : Nat → Value), X = .pointer (some A) ∧ A.spot = none ∧
  ∀ (j : Nat) (d : PD), cs[j]? = some d → stab ι h A.block ∧ w.cell? ⟨A.block, A.off + j, none⟩ = some (U j) ∧ RPD (stab ι h) w d (U j) := by
 cases r with
 | one hc => cases hc with | ro A U hs hc => exact ⟨A, U, rfl, hs, hc⟩
theorem addr_eta {A : Addr} (e : A.spot = none) : A = ⟨A.block, A.off, none⟩ := by cases A; simp at e; subst e; rfl
theorem ld_ok (H : HeapOK ι h bd w) {t : TypeId} {x av : AV} {X : Value} (r : RAV ι h bd w x X) (e : ldA P t h x = some av) :
  ∃ v, (Instr.loadAt t X).run P w = .ok v w ∧ RAV ι h bd w av v := by
 unfold ldA at e
 split at e
 ·rename_i id ver off
  split at e
  ·rename_i b hb
   split at e
   ·rename_i hv
    have hX := ptr_inv r hb hv
    subst hX
    by_cases hne : b.cells = []
    ·unfold partA at e
     rw [hne] at e
     split at e
     ·rename_i hg
      split at e
      ·rename_i n hn
       split at e
       ·rename_i hle
        simp at hle
        obtain ⟨rfl, rfl⟩ := hle
        injection e with e
        subst e
        refine ⟨.agg #[], ?_, ?_⟩
        ·simp [Instr.loadAt, Instr.sureAddr, loadVar, tagg_run hg, tsz_run hn, loadCells, loadCellsFrom]
        ·exact .agg [] rfl (fun _ _ _ hh => by simp at hh)
       ·cases e
      ·cases e
     ·simp at e
     ·cases e
    ·obtain ⟨c, ty, h1, h2, h3⟩ := H.blk id b hb hne
     obtain ⟨v, hv1, hv2⟩ := loadVar_ok (P := P) (ι := ι) (h := h) (bd := bd) (w := w) (cs := b.cells) (blk := ι id) (B := 0) (off := off) (fun j d hd => by
      have hlt : j < c.size := by rw [h2]; exact (List.getElem?_eq_some_iff.1 hd).1
      refine ⟨c[j], ?_, h3 j d _ hd (Array.getElem?_eq_getElem hlt)⟩
      simp [World.cell?, h1, hlt]) e
     exact ⟨v, by simpa [Instr.loadAt, Instr.sureAddr] using hv1, hv2⟩
   ·cases e
  ·cases e
 ·rename_i cs
  obtain ⟨A, U, rfl, hs, hc⟩ := ro_inv r
  obtain ⟨v, hv1, hv2⟩ := loadVar_ok (P := P) (ι := ι) (h := h) (bd := bd) (w := w) (cs := cs.map .p) (blk := A.block) (B := A.off) (off := 0) (fun j d hd => by
   rw [List.getElem?_map] at hd
   cases h0 : cs[j]? with
   | none => rw [h0] at hd; simp at hd
   | some d0 =>
     rw [h0] at hd
     simp at hd
     subst hd
     obtain ⟨_, h2, h3⟩ := hc j d0 h0
     exact ⟨U j, h2, .p h3⟩) e
  exact ⟨v, by rw [addr_eta hs]; simpa [Instr.loadAt, Instr.sureAddr] using hv1, hv2⟩
 ·cases e
theorem fieldPlace_run {A : Addr} (hs : A.spot = none) {x : Field} {n : Nat} (hn : tsz P x.type = some (n + 1)) : (fieldPlace A x).run P w = .ok ⟨A.block, A.off + x.offset, none⟩ w := by
 simp only [fieldPlace, Sem.run_bind, tsz_run hn, Result.andThen]
 rw [if_neg (by omega), addr_eta hs, add_none]
 simp
theorem live_run {id ver : Nat} (e : liveB h id ver = true) : ∃ b, h id = some b ∧ b.ver = ver := by
 unfold liveB at e
 split at e
 ·rename_i b hb; exact ⟨b, hb, by simpa using e⟩
 ·cases e
theorem ptr_off {id ver off off' : Nat} {X : Value} (r : RAV ι h bd w (.one (.ptr id ver off)) X) : RAV ι h bd w (.one (.ptr id ver off')) (.pointer (some ⟨ι id, off', none⟩)) := by
 cases r with
 | one hc => cases hc with | ptr a b' c => exact .one (.ptr a b' (fun _ _ _ => rfl))
theorem fld_ok {t : TypeId} {x av : AV} {X : Value} {f : Nat} (r : RAV ι h bd w x X) (e : fldA P t h x f = some av) :
  ∃ v, (Instr.fieldAt t X f).run P w = .ok v w ∧ RAV ι h bd w av v := by
 unfold fldA at e
 split at e
 ·rename_i o ho
  obtain ⟨fs, y, n, h1, h2, h3, rfl⟩ := fldO_run ho
  split at e
  ·rename_i id ver off
   split at e
   ·rename_i hl
    injection e with e
    subst e
    obtain ⟨b, hb, hv⟩ := live_run hl
    have hX := ptr_inv r hb hv
    subst hX
    refine ⟨.pointer (some ⟨ι id, off + y.offset, none⟩), ?_, ptr_off r⟩
    simp only [Instr.fieldAt, Sem.run_bind, run_underlying h1, Result.andThen, h2, Instr.sureAddr, Sem.run_pure, fieldPlace_run (A := ⟨ι id, off, none⟩) rfl h3]
   ·cases e
  ·rename_i cs
   injection e with e
   subst e
   obtain ⟨A, U, rfl, hs, hc⟩ := ro_inv r
   refine ⟨.pointer (some ⟨A.block, A.off + y.offset, none⟩), ?_, ?_⟩
   ·simp only [Instr.fieldAt, Sem.run_bind, run_underlying h1, Result.andThen, h2, Instr.sureAddr, Sem.run_pure, fieldPlace_run hs h3]
   ·refine .one (.ro _ (fun j => U (y.offset + j)) rfl (fun j d hd => ?_))
    rw [List.getElem?_drop] at hd
    obtain ⟨g1, g2, g3⟩ := hc _ d hd
    exact ⟨g1, by show w.cell? ⟨A.block, A.off + y.offset + j, none⟩ = _; rw [Nat.add_assoc]; exact g2, g3⟩
  ·cases e
 ·cases e
theorem int_inv {k : IntKind} {i : Int} {X : Value} (r : RAV ι h bd w (.one (.p (.v (.int k i)))) X) : X = .int k i := rav_v_inv r
theorem sl_inv {sz : Nat} {es : List (List PD)} {X : Value} (r : RAV ι h bd w (.one (.p (.sl sz es))) X) : ∃ (a : Option Addr) (cap : Nat) (U : Nat → Nat → Value), X = .slice a es.length cap ∧ es.length ≤ cap ∧ (a = none → cap = 0) ∧
  (∀ A, a = some A → es = [] ∨ A.spot = none) ∧ (∀ e ∈ es, e.length = sz) ∧
  (∀ (i : Nat) (e : List PD), es[i]? = some e → ∀ (j : Nat) (d : PD), e[j]? = some d → ∃ A : Addr, a = some A ∧ stab ι h A.block ∧ w.cell? ⟨A.block, A.off + (i * sz + j), none⟩ = some (U i j)) ∧
  (∀ (i : Nat) (e : List PD), es[i]? = some e → ∀ (j : Nat) (d : PD), e[j]? = some d → RPD (stab ι h) w d (U i j)) := by
 cases r with
 | one hc => cases hc with | p hd => cases hd with | sl a cap U h1 h2 h3 h4 h5 h6 => exact ⟨a, cap, U, rfl, h1, h2, h3, h4, h5, h6⟩
theorem win_inv {id ver off len cap : Nat} {X : Value} (r : RAV ι h bd w (.one (.win id ver off len cap)) X) (hl : liveB h id ver = true) :
  len ≤ cap ∧ (X = .slice (some ⟨ι id, off, none⟩) len cap ∨ (X = .slice none 0 0 ∧ len = 0 ∧ cap = 0)) := by
 obtain ⟨b, hb, hv⟩ := live_run hl
 cases r with
 | one hc => cases hc with | win _ _ hv' => exact hv' b hb hv
theorem win_hd {id ver off len cap : Nat} {X : Value} (r : RAV ι h bd w (.one (.win id ver off len cap)) X) : id < bd ∧ ∀ blk, h id = some blk → ver ≤ blk.ver := by
 cases r with
 | one hc => cases hc with | win a b _ => exact ⟨a, b⟩
theorem ptr_hd {id ver off : Nat} {X : Value} (r : RAV ι h bd w (.one (.ptr id ver off)) X) : id < bd ∧ ∀ blk, h id = some blk → ver ≤ blk.ver := by
 cases r with
 | one hc => cases hc with | ptr a b _ => exact ⟨a, b⟩
theorem idx_ok {t : TypeId} {x i av : AV} {X I : Value} (r : RAV ι h bd w x X) (ri : RAV ι h bd w i I) (e : idxA P t h x i = some av) :
  ∃ v, (Instr.indexAt t X I).run P w = .ok v w ∧ RAV ι h bd w av v := by
 unfold idxA at e
 split at e
 ·rename_i k i
  have hI := int_inv ri
  subst hI
  split at e
  ·rename_i sz es
   split at e
   ·rename_i z hz
    split at e
    ·rename_i hc
     obtain ⟨rfl, h0, h1⟩ := hc
     injection e with e
     subst e
     obtain ⟨el, hu, hs⟩ := slS_run hz
     obtain ⟨a, cap, U, rfl, g1, g2, g3, g4, g5, g6⟩ := sl_inv r
     have hi : i.toNat < es.length := by omega
     have he : es[i.toNat]? = some (es.getD i.toNat []) := by simp [List.getD, hi]
     have hal : ∃ A, a = some A := by
      cases a with
      | some A => exact ⟨A, rfl⟩
      | none => have := g2 rfl; omega
     obtain ⟨A, rfl⟩ := hal
     refine ⟨.pointer (some ⟨A.block, A.off + i.toNat * z, none⟩), ?_, ?_⟩
     ·have hsp := (g3 A rfl).resolve_left (fun hh => by rw [hh] at hi; simp at hi)
      simp only [Instr.indexAt, asIntOf, Sem.run_bind, Sem.run_pure, Result.andThen, run_underlying hu, if_pos (And.intro h0 h1), tsz_run hs]
      rw [addr_eta hsp, add_none]
     ·refine .one (.ro _ (fun j => U i.toNat j) rfl (fun j d hd => ?_))
      obtain ⟨A', hA', k1, k2⟩ := g5 _ _ he j d hd
      injection hA' with hA'
      subst hA'
      exact ⟨k1, by show w.cell? ⟨A.block, A.off + i.toNat * z + j, none⟩ = _; rw [Nat.add_assoc]; exact k2, g6 _ _ he j d hd⟩
    ·cases e
   ·cases e
  ·rename_i id ver off len cap
   split at e
   ·rename_i z hz
    split at e
    ·rename_i hc
     obtain ⟨hl, h0, h1⟩ := hc
     injection e with e
     subst e
     obtain ⟨el, hu, hs⟩ := slS_run hz
     obtain ⟨g0, hX⟩ := win_inv r hl
     have hX : X = .slice (some ⟨ι id, off, none⟩) len cap := by
      rcases hX with hX | ⟨_, hX, _⟩
      ·exact hX
      ·omega
     subst hX
     refine ⟨.pointer (some ⟨ι id, off + i.toNat * z, none⟩), ?_, .one (.ptr (win_hd r).1 (win_hd r).2 (fun _ _ _ => rfl))⟩
     simp only [Instr.indexAt, asIntOf, Sem.run_bind, Sem.run_pure, Result.andThen, run_underlying hu, if_pos (And.intro h0 h1), tsz_run hs, add_none]
    ·cases e
   ·cases e
  ·rename_i id ver off
   split at e
   ·rename_i n z hz
    split at e
    ·rename_i hc
     obtain ⟨hl, h0, h1⟩ := hc
     injection e with e
     subst e
     obtain ⟨el, hu, hs⟩ := arS_run hz
     obtain ⟨b, hb, hv⟩ := live_run hl
     have hX := ptr_inv r hb hv
     subst hX
     refine ⟨.pointer (some ⟨ι id, off + i.toNat * z, none⟩), ?_, ptr_off r⟩
     simp only [Instr.indexAt, asIntOf, Sem.run_bind, Sem.run_pure, Result.andThen, run_underlying hu, Instr.sureAddr, if_pos (And.intro h0 h1), tsz_run hs, add_none]
    ·cases e
   ·cases e
  ·cases e
 ·cases e
theorem agg_inv {cs : List Cell} {X : Value} (r : RAV ι h bd w (.agg cs) X) : ∃ V : List Value, X = .agg V.toArray ∧ V.length = cs.length ∧
  ∀ (i : Nat) (c : Cell) (u : Value), cs[i]? = some c → V[i]? = some u → RCell ι h bd w c u := by
 cases r with
 | agg V hl hv => exact ⟨V, rfl, hl, hv⟩
theorem idxV_ok {t : TypeId} {x i av : AV} {X I : Value} (r : RAV ι h bd w x X) (ri : RAV ι h bd w i I) (e : idxV P t x i = some av) :
  ∃ v, (Instr.index t X I).run P w = .ok v w ∧ RAV ι h bd w av v := by
 unfold idxV at e
 split at e
 ·rename_i k i
  have hI := int_inv ri
  subst hI
  split at e
  ·rename_i s
   split at e
   ·rename_i hc
    obtain ⟨hs, h0, h1⟩ := hc
    injection e with e
    subst e
    have hX := rav_v_inv r
    subst hX
    have hlt : i.toNat < s.size := by omega
    refine ⟨_, ?_, rav_v _⟩
    have hb : s[i.toNat]? = some s[i.toNat] := by simp [hlt]
    have hb2 : strAt s i.toNat = (s[i.toNat].toNat : Int) := by
     unfold strAt
     have : s.data.toList.getD i.toNat 0 = s[i.toNat] := by
      have h2 : i.toNat < s.data.size := hlt
      simp only [List.getD, Array.getElem?_toList]
      rw [Array.getElem?_eq_getElem h2]
      rfl
     rw [this]
    simp only [Instr.index, asIntOf, Sem.run_bind, Sem.run_pure, Result.andThen, run_underlying (isStr_run hs), if_pos h0, hb, hb2]
   ·cases e
  ·rename_i cs
   split at e
   ·rename_i n el hz
    split at e
    ·rename_i z hs
     split at e
     ·rename_i hc
      obtain ⟨V, rfl, hl, hv⟩ := agg_inv r
      obtain ⟨v, h1, h2⟩ := part_ok (P := P) hl hv e
      refine ⟨v, ?_, h2⟩
      simp only [Instr.index, asIntOf, Sem.run_bind, Sem.run_pure, Result.andThen, run_underlying (arE_run hz), if_pos hc, tsz_run hs, h1]
     ·cases e
    ·cases e
   ·cases e
  ·cases e
 ·cases e
theorem field_ok {t : TypeId} {x av : AV} {X : Value} {f : Nat} (r : RAV ι h bd w x X) (e : fieldA P t x f = some av) :
  ∃ v, (Instr.field t X f).run P w = .ok v w ∧ RAV ι h bd w av v := by
 unfold fieldA at e
 split at e
 ·rename_i cs
  split at e
  ·rename_i u o hu
   obtain ⟨fs, y, h1, h2, rfl, rfl⟩ := fldT_run hu
   obtain ⟨V, rfl, hl, hv⟩ := agg_inv r
   obtain ⟨v, g1, g2⟩ := part_ok (P := P) hl hv e
   refine ⟨v, ?_, g2⟩
   simp only [Instr.field, asAgg, Sem.run_bind, Sem.run_pure, Result.andThen, run_underlying h1, h2, g1]
  ·cases e
 ·cases e
variable {P : Program} {ι : Nat → Nat} {h : Heap} {bd : Nat} {w : World}
theorem intB_ok {op : BinOp} {k : IntKind} {a b : Int} {v : Value} (hs : isShift op = false) (e : intB op k a b = some v) (t : TypeId) : (binOp op t (.int k a) (.int k b)).run P w = .ok v w := by
 cases op <;> simp only [intB, isShift, Option.some.injEq, reduceCtorEq] at e hs
 case quo => split at e; · cases e
             ·rename_i hb; injection e with e; subst e; simp [binOp, Op.intDiv, hb]
 case rem => split at e; · cases e
             ·rename_i hb; injection e with e; subst e; simp [binOp, Op.intDiv, hb]
 case eql => subst e; simp [binOp, Op.intCmp]; rfl
 case neq => subst e; simp [binOp, Op.intCmp]; rfl
 all_goals subst e; simp [binOp, Op.intArith, Op.intBits, Op.intCmp, andI, orI, xorI, andNotI]
theorem shiftB_ok {op : BinOp} {k k' : IntKind} {a b : Int} {v : Value} (e : shiftB op k a b = some v) (t : TypeId) : (binOp op t (.int k a) (.int k' b)).run P w = .ok v w := by
 cases op <;> simp only [shiftB, reduceCtorEq] at e
 all_goals
  split at e
  ·cases e
  ·rename_i hb; injection e with e; subst e; simp [binOp, Op.shift, hb]
theorem strB_ok {op : BinOp} {a b : ByteArray} {v : Value} (e : strB op a b = some v) (t : TypeId) : (binOp op t (.string a) (.string b)).run P w = .ok v w := by
 have e1 : a.toList = a.data.toList := ByteArray.toList_eq a
 have e2 : b.toList = b.data.toList := ByteArray.toList_eq b
 have e3 : (a.data.toList == b.data.toList) = decide (a.data.toList = b.data.toList) := by rw [Bool.eq_iff_iff]; simp
 cases op <;> simp only [strB, Option.some.injEq, reduceCtorEq] at e
 case add =>
  split at e
  ·rename_i hb
   injection e with e
   subst e
   have : ¬ (((a.size + b.size : Nat) : Int) > IntKind.i64.max) := by rw [IntKind.max_i64]; omega
   simp only [binOp, Op.stringOp]
   rw [if_neg this]; rfl
  ·cases e
 all_goals
  subst e
  simp only [binOp, Op.stringOp, e1, e2, e3]
  rfl
theorem floatB_ok {op : BinOp} {k : FloatKind} {a b : Nat} {v : Value} (e : floatB op k a b = some v) (t : TypeId) : (binOp op t (.float k a) (.float k b)).run P w = .ok v w := by
 cases op <;> simp only [floatB, Option.some.injEq, reduceCtorEq] at e
 all_goals subst e; simp [binOp, Op.floatCmp]
theorem isFlt_run {t : TypeId} (he : isFlt P t = true) : ∃ k, P.underlying t = some (.float k) := by
 unfold isFlt at he
 split at he
 ·rename_i k h; exact ⟨k, h⟩
 ·cases he
theorem isBoolT_run {t : TypeId} (he : isBoolT P t = true) : P.underlying t = some .bool := by
 unfold isBoolT at he
 split at he
 ·assumption
 ·cases he
theorem equal_bool {t : TypeId} (hu : P.underlying t = some .bool) (a b : Bool) : (Op.equal t (.bool a) (.bool b)).run P w = .ok (a == b) w := by
 have : ∀ n, (Op.equalIn (n + 1) t (.bool a) (.bool b)).run P w = .ok (a == b) w := by
  intro n
  simp only [Op.equalIn, Sem.run_bind, run_underlying hu, Result.andThen, Sem.run_pure]
 exact this 9999
theorem isPtrT_run {t : TypeId} (he : isPtrT P t = true) : P.underlying t = some (.pointer (P.pointee t)) := by
 unfold isPtrT at he
 split at he
 ·rename_i e hu; rw [hu]; simp [Program.pointee, hu]
 ·cases he
theorem ptrB_ok {op : BinOp} {t : TypeId} {r : Bool} {v : Value} {p : Option Addr} (ht : isPtrT P t = true) (hp : p.isNone = r) (e : ptrB op r = some v) : (binOp op t (.pointer p) (.pointer none)).run P w = .ok v w := by
 have hu := isPtrT_run ht
 subst hp
 cases op <;> simp only [ptrB, Option.some.injEq, reduceCtorEq] at e
 ·subst e; exact run_eql_pointer_nil w t p hu
 ·subst e; exact run_neq_pointer_nil w t p hu
theorem binV_ok {op : BinOp} {a b v : Value} {t : TypeId} (e : binV P t op a b = some v) : (binOp op t a b).run P w = .ok v w := by
 unfold binV at e
 split at e
 ·split at e
  ·exact shiftB_ok e t
  ·rename_i hs
   split at e
   ·rename_i hk; subst hk; exact intB_ok (by simpa using hs) e t
   ·cases e
 ·exact strB_ok e t
 ·split at e
  ·rename_i x y hb
   have hu := isBoolT_run hb
   split at e
   ·injection e with e; subst e; simp only [binOp, Sem.run_bind, equal_bool hu, Result.andThen, Sem.run_pure]
   ·injection e with e; subst e; simp only [binOp, Sem.run_bind, equal_bool hu, Result.andThen, Sem.run_pure]; rfl
   ·cases e
  ·cases e
 ·split at e
  ·rename_i hk; subst hk; exact floatB_ok e t
  ·cases e
 ·split at e
  ·rename_i ht; exact ptrB_ok ht rfl e
  ·cases e
 ·cases e
theorem guard_ok {op : BinOp} {a b v : Value} {t : TypeId} (e : binV P t op a b = some v) (x y : Operand) : (eqGuard op t x y a b).run P w = .ok () w := by
 unfold binV at e
 split at e
 ·rw [eqGuard_at_int]; rfl
 ·rw [eqGuard_at_string]; rfl
 ·rw [eqGuard_at_bool]; rfl
 ·rw [eqGuard_at_float]; rfl
 ·rw [eqGuard_at_pointer]; rfl
 ·cases e
theorem intK_some {t : TypeId} (he : (intK P t).isSome = true) : ∃ k, P.underlying t = some (.int k) := by
 unfold intK at he
 split at he
 ·rename_i k h; exact ⟨k, h⟩
 ·cases he
theorem eqV_ok {t : TypeId} {a b : Value} {r : Bool} (d : Nat) (e : eqV P t a b = some r) : (Op.equalIn (d + 1) t a b).run P w = .ok r w := by
 unfold eqV at e
 split at e
 ·split at e
  ·rename_i h
   obtain ⟨rfl, h2⟩ := h
   obtain ⟨k', hk⟩ := intK_some h2
   injection e with e
   subst e
   rw [run_equalIn_int w d t _ k' _ _ hk]
   congr 1
  ·cases e
 ·split at e
  ·rename_i x y h
   injection e with e
   subst e
   rw [run_equalIn_string w d t _ _ (isStr_run h)]
   congr 1
   rw [ByteArray.toList_eq, ByteArray.toList_eq]
   rw [Bool.eq_iff_iff]; simp
  ·cases e
 ·split at e
  ·rename_i h
   injection e with e
   subst e
   exact run_equalIn_bool' w d t _ _ (isBoolT_run h)
  ·cases e
 ·split at e
  ·rename_i h
   obtain ⟨rfl, h2⟩ := h
   obtain ⟨k', hk⟩ := isFlt_run h2
   injection e with e
   subst e
   simp only [Op.equalIn, Sem.run_bind, run_underlying hk, Result.andThen, if_true, Sem.run_pure]
   rfl
  ·cases e
 ·cases e
theorem eqAV_ok : ∀ (f d : Nat) (t : TypeId) (x y : AV) (X Y : Value) (r : Bool), RAV ι h bd w x X → RAV ι h bd w y Y → eqAV P f t x y = some r → (Op.equalIn (d + f) t X Y).run P w = .ok r w
 | 0, _, _, _, _, _, _, _, _, _, e => by cases e
 | f + 1, d, t, x, y, X, Y, r, rx, ry, e => by
   unfold eqAV at e
   split at e
   ·have h1 := rav_v_inv rx
    have h2 := rav_v_inv ry
    subst h1; subst h2
    rw [← Nat.add_assoc]
    exact eqV_ok _ e
   ·rename_i cs ds
    split at e
    ·rename_i fs hfs
     cases rx with
     | agg V hl hv =>
       cases ry with
       | agg U hl' hv' =>
         unfold flds at hfs
         split at hfs
         ·rename_i hc
          split at hfs
          ·rename_i gs hu
           split at hfs
           ·rename_i hall
            injection hfs with hfs
            have hfo : P.fieldsOf t = gs := by simp [Program.fieldsOf, hu]
            rw [← Nat.add_assoc, run_equalIn_struct w (d + f) t V.toArray U.toArray (by rw [hfo]; exact hu) hc.1, hfo]
            have hall' : ∀ g ∈ gs.toList, g.name ≠ "_" := fun g hg => by simpa using List.all_eq_true.1 hall g hg
            clear hall hu hfo hc
            revert hall' e r
            subst hfs
            generalize gs.toList = l
            intro r e hall
            induction l generalizing r with
            | nil => simp [eqFs] at e; subst e; simp [Op.eqFields]
            | cons g l ih =>
              simp only [List.map_cons, eqFs] at e
              split at e
              ·rename_i a b ha hb
               split at e
               ·rename_i r1 q1 hr hq
                injection e with e
                subst e
                obtain ⟨v1, p1, p2⟩ := part_ok (P := P) hl hv ha
                obtain ⟨v2, q1', q2⟩ := part_ok (P := P) hl' hv' hb
                have hcmp := eqAV_ok f d g.type a b v1 v2 r1 p2 q2 hr
                have hrest := ih q1 hq (fun x hx => hall x (by simp [hx]))
                simp only [Op.eqFields, if_pos (hall g (by simp)), Sem.run_bind, p1, q1', hcmp, Result.andThen]
                cases r1
                ·simp
                ·simpa using hrest
               ·cases e
              ·cases e
           ·cases hfs
          ·cases hfs
         ·cases hfs
    ·cases e
   ·cases e
theorem bin_ok {op : BinOp} {x y av : AV} {X Y : Value} {t : TypeId} {ox oy : Operand} (rx : RAV ι h bd w x X) (ry : RAV ι h bd w y Y) (e : binA P h t op x y = some av) :
  ∃ v, (do eqGuard op t ox oy X Y; binOp op t X Y : Sem Value).run P w = .ok v w ∧ RAV ι h bd w av v := by
 unfold binA at e
 split at e
 ·rename_i id ver off
  split at e
  ·rename_i hc
   obtain ⟨ht, hlv⟩ := hc
   cases hv : ptrB op false with
   | none => rw [hv] at e; simp at e
   | some v =>
     rw [hv] at e
     simp at e
     subst e
     have h2 := rav_v_inv ry
     subst h2
     obtain ⟨blk, hb, hver⟩ : ∃ blk, h id = some blk ∧ blk.ver = ver := by
      unfold liveB at hlv
      cases hb : h id with
      | none => rw [hb] at hlv; cases hlv
      | some blk => rw [hb] at hlv; exact ⟨blk, rfl, by simpa using hlv⟩
     cases rx with
     | one hc =>
       cases hc with
       | ptr hid hver' hvv =>
         rw [hvv blk hb hver]
         exact ⟨v, by simp only [Sem.run_bind, eqGuard_at_pointer, Sem.run_pure, Result.andThen]; exact ptrB_ok ht rfl hv, rav_v v⟩
  ·cases e
 ·rename_i a b
  have h1 := rav_v_inv rx
  have h2 := rav_v_inv ry
  subst h1; subst h2
  cases hv : binV P t op X Y with
  | none => rw [hv] at e; simp at e
  | some v =>
    rw [hv] at e
    simp at e
    subst e
    exact ⟨v, by simp only [Sem.run_bind, guard_ok hv, Result.andThen, binV_ok hv], rav_v v⟩
 ·rename_i cs ds
  cases hr : eqAV P 4 t (.agg cs) (.agg ds) with
  | none => rw [hr] at e; simp at e
  | some r =>
    rw [hr] at e
    simp only [Option.bind_some] at e
    have hcmp := eqAV_ok 4 9996 t _ _ X Y r rx ry hr
    have hg : P.eqGuardType P.depth t = false := by
     unfold eqAV at hr
     simp only at hr
     split at hr
     ·rename_i fs hfs
      unfold flds at hfs
      split at hfs
      ·rename_i hc; exact hc.2
      ·cases hfs
     ·cases hr
    cases rx with
    | agg V hl hv =>
      cases ry with
      | agg U hl' hv' =>
        unfold eqR at e
        split at e
        ·injection e with e; subst e
         exact ⟨.bool r, by simp only [Sem.run_bind, run_eqGuard_agg w _ t ox oy _ _ hg, Result.andThen, run_eql_struct]; rw [show (10000 : Nat) = 9996 + 4 from rfl, hcmp], rav_v _⟩
        ·injection e with e; subst e
         exact ⟨.bool !r, by simp only [Sem.run_bind, run_eqGuard_agg w _ t ox oy _ _ hg, Result.andThen, run_neq_struct]; rw [show (10000 : Nat) = 9996 + 4 from rfl, hcmp], rav_v _⟩
        ·cases e
 ·cases e
theorem un_ok {op : UnOp} {x av : AV} {X : Value} (rx : RAV ι h bd w x X) (e : unA op x = some av) :
  ∃ v, (Op.unary op X).run P w = .ok v w ∧ RAV ι h bd w av v := by
 unfold unA at e
 split at e
 ·rename_i a
  have h1 := rav_v_inv rx
  subst h1
  cases hv : unV op X with
  | none => rw [hv] at e; simp at e
  | some v =>
    rw [hv] at e
    simp at e
    subst e
    refine ⟨v, ?_, rav_v v⟩
    unfold unV at hv
    split at hv
    ·injection hv with hv; subst hv; rfl
    ·injection hv with hv; subst hv; rfl
    ·injection hv with hv; subst hv; simp [Op.unary, Op.intBits, notI]
    ·cases hv
 ·cases e
theorem intK_run {t : TypeId} {k : IntKind} (he : intK P t = some k) : P.underlying t = some (.int k) := by
 unfold intK at he
 split at he
 ·rename_i h; injection he with he; subst he; exact h
 ·cases he
theorem octV_inv {x : PD} {c : UInt8} (e : octV x = some c) : ∃ n : Int, x = .v (.int .u8 n) ∧ c = UInt8.ofNat n.toNat := by
 unfold octV at e
 split at e
 ·split at e
  ·injection e with e; exact ⟨_, rfl, e.symm⟩
  ·cases e
 ·cases e
theorem octE_inv : ∀ {es : List (List PD)} {cs : List UInt8}, octE es = some cs → ∃ ns : List Int, es = ns.map (fun n => [.v (.int .u8 n)]) ∧ cs = ns.map fun n => UInt8.ofNat n.toNat
 | [], cs, e => by
   unfold octE at e; injection e with e; exact ⟨[], rfl, e.symm⟩
 | a :: es, cs, e => by
   unfold octE at e
   split at e
   ·rename_i h; cases h
   ·rename_i x es2 h
    obtain ⟨rfl, rfl⟩ := List.cons.inj h
    split at e
    ·rename_i c cs' hc hcs
     injection e with e; subst e
     obtain ⟨n, rfl, rfl⟩ := octV_inv hc
     obtain ⟨ns, rfl, rfl⟩ := octE_inv hcs
     exact ⟨n :: ns, rfl, rfl⟩
    ·cases e
   ·cases e
theorem octC_inv : ∀ {es : List Cell} {cs : List UInt8}, octC es = some cs → ∃ ns : List Int, es = ns.map (fun n => .p (.v (.int .u8 n))) ∧ cs = ns.map fun n => UInt8.ofNat n.toNat
 | [], cs, e => by
   unfold octC at e; injection e with e; exact ⟨[], rfl, e.symm⟩
 | a :: es, cs, e => by
   unfold octC at e
   split at e
   ·rename_i h; cases h
   ·rename_i x es2 h
    obtain ⟨rfl, rfl⟩ := List.cons.inj h
    split at e
    ·rename_i c cs' hc hcs
     injection e with e; subst e
     obtain ⟨n, rfl, rfl⟩ := octV_inv hc
     obtain ⟨ns, rfl, rfl⟩ := octC_inv hcs
     exact ⟨n :: ns, rfl, rfl⟩
    ·cases e
   ·cases e
theorem octT_run {s d : TypeId} (e : octT P s d = true) : ∃ el, P.underlying s = some (.slice el) ∧ P.underlying el = some (.int .u8) ∧ P.underlying d = some .string := by
 unfold octT at e
 split at e
 ·rename_i el hel
  simp only [Bool.and_eq_true, decide_eq_true_eq] at e
  exact ⟨el, slE_run hel, intK_run e.1, isStr_run e.2⟩
 ·cases e
theorem strOfNums_eq (ns : List Int) : strOfNums ns = ⟨(ns.map fun n => UInt8.ofNat n.toNat).toArray⟩ := rfl
theorem conv_zero {s d el : TypeId} (h1 : P.underlying s = some (.slice el)) (h2 : P.underlying el = some (.int .u8)) (h3 : P.underlying d = some .string) (a : Addr) (cap : Nat) :
  (convert s d (.slice (some a) 0 cap)).run P w = .ok (.string ⟨([] : List UInt8).toArray⟩) w := by
 rw [run_convert_bytes_string w s d el _ 0 cap h1 h2 h3, run_bytesToString w a 0 cap [] rfl]; rfl
theorem conv_ok {s d : TypeId} {x av : AV} {X : Value} (H : HeapOK ι h bd w) (rx : RAV ι h bd w x X) (e : convA P h s d x = some av) :
  ∃ v, (convert s d X).run P w = .ok v w ∧ RAV ι h bd w av v := by
 unfold convA at e
 split at e
 ·rename_i k n
  have h1 := rav_v_inv rx
  subst h1
  split at e
  ·rename_i k' hk
   split at e
   ·rename_i hu
    injection e with e
    subst e
    obtain ⟨D, hD⟩ := Option.isSome_iff_exists.1 hu
    exact ⟨_, by simp [convert, run_underlying hD, run_underlying (intK_run hk), Conv.intToInt], rav_v _⟩
   ·cases e
  ·cases e
 ·rename_i str
  have h1 := rav_v_inv rx
  subst h1
  split at e
  ·rename_i hu
   injection e with e
   subst e
   obtain ⟨D, hD⟩ := Option.isSome_iff_exists.1 hu.1
   refine ⟨_, ?_, rav_v _⟩
   simp only [convert, Sem.run_bind, run_underlying hD, run_underlying (isStr_run hu.2), Result.andThen]
   cases D <;> rfl
  ·cases e
 ·have h1 := rav_v_inv rx
  subst h1
  split at e
  ·rename_i hu
   obtain ⟨el, h1, h2, h3⟩ := octT_run hu
   injection e with e
   subst e
   exact ⟨_, run_convert_bytes_nil w s el h1 h2 0 0 d h3, rav_v _⟩
  ·cases e
 ·rename_i es
  split at e
  ·rename_i hu
   obtain ⟨el, h1, h2, h3⟩ := octT_run hu
   unfold txtV at e
   cases ho : octE es with
   | none => rw [ho] at e; cases e
   | some cs =>
     rw [ho] at e
     injection e with e
     subst e
     obtain ⟨ns, rfl, rfl⟩ := octE_inv ho
     obtain ⟨a, cap, U, rfl, g1, g2, g3, g4, g5, g6⟩ := sl_inv rx
     refine ⟨_, ?_, rav_v _⟩
     rw [← strOfNums_eq]
     cases a with
     | none =>
       have : cap = 0 := g2 rfl
       have h0 : ns = [] := List.eq_nil_of_length_eq_zero (by simp only [List.length_map] at g1; omega)
       subst h0
       exact run_convert_bytes_nil w s el h1 h2 _ _ d h3
     | some A =>
       cases ns with
       | nil => exact conv_zero h1 h2 h3 A cap
       | cons n ns =>
         have hsp : A.spot = none := by
          rcases g3 A rfl with g | g
          ·cases g
          ·exact g
         have hA : A = ⟨A.block, A.off, none⟩ := by rw [← hsp]
         rw [hA, List.length_map]
         refine run_convert_bytes_arg w s el h1 h2 A.block A.off (n :: ns).length cap (n :: ns) rfl (fun i hi => ?_) d h3
         have he : ((n :: ns).map (fun n => [PD.v (.int .u8 n)]))[i]? = some [.v (.int .u8 ((n :: ns).getD i 0))] := by
          rw [List.getElem?_map, List.getElem?_eq_getElem hi]; simp [List.getD, List.getElem?_eq_getElem hi]
         obtain ⟨A', e1, _, e3⟩ := g5 i _ he 0 _ rfl
         injection e1 with e1
         subst e1
         have e4 := g6 i _ he 0 _ rfl
         have e5 : U i 0 = .int .u8 ((n :: ns).getD i 0) := by
          generalize U i 0 = u at e4 ⊢
          cases e4; rfl
         rw [e5] at e3
         simpa using e3
  ·cases e
 ·rename_i id ver off len cap
  split at e
  ·rename_i b hb
   split at e
   ·rename_i hu
    obtain ⟨hv, hu, hle⟩ := hu
    obtain ⟨el, h1, h2, h3⟩ := octT_run hu
    unfold txtV at e
    cases ho : octC ((b.cells.drop off).take len) with
    | none => rw [ho] at e; cases e
    | some cs =>
      rw [ho] at e
      injection e with e
      subst e
      obtain ⟨ns, hns, rfl⟩ := octC_inv ho
      have hlen : ns.length = len := by
       have := congrArg List.length hns
       simp only [List.length_take, List.length_drop, List.length_map] at this
       omega
      have hlive : liveB h id ver = true := by unfold liveB; rw [hb]; simpa using hv
      obtain ⟨_, hX⟩ := win_inv rx hlive
      refine ⟨_, ?_, rav_v _⟩
      rw [← strOfNums_eq]
      rcases hX with rfl | ⟨rfl, rfl, rfl⟩
      ·cases hns2 : ns with
       | nil =>
         subst hns2
         have : len = 0 := by simpa using hlen.symm
         subst this
         exact conv_zero h1 h2 h3 _ cap
       | cons n ns' =>
         rw [← hns2]
         have hne : b.cells ≠ [] := by
          intro hz; rw [hz] at hle; rw [hns2] at hlen; simp only [List.length_cons, List.length_nil] at hlen hle; omega
         obtain ⟨c, ty, k1, k2, k3⟩ := H.blk id b hb hne
         refine run_convert_bytes_arg w s el h1 h2 (ι id) off len cap ns hlen (fun i hi => ?_) d h3
         have hcell : b.cells[off + i]? = some (.p (.v (.int .u8 (ns.getD i 0)))) := by
          have := congrArg (fun l => l[i]?) hns
          simp only [List.getElem?_take, List.getElem?_drop, if_pos hi, List.getElem?_map] at this
          rw [this, List.getElem?_eq_getElem (by omega)]
          simp [List.getD, List.getElem?_eq_getElem (show i < ns.length by omega)]
         have hlt : off + i < c.size := by rw [k2]; exact (List.getElem?_eq_some_iff.1 hcell).1
         have hcv := k3 (off + i) _ _ hcell (Array.getElem?_eq_getElem hlt)
         have : c[off + i] = .int .u8 (ns.getD i 0) := by
          generalize c[off + i] = u at hcv ⊢
          cases hcv with | p hd => cases hd; rfl
         unfold World.cell?
         rw [k1]
         simp only [Array.getElem?_eq_getElem hlt, this]
         rfl
      ·have : ns = [] := List.eq_nil_of_length_eq_zero hlen
       subst this
       exact run_convert_bytes_nil w s el h1 h2 _ _ d h3
   ·cases e
  ·cases e
 ·cases e
theorem ex_ok {x av : AV} {X : Value} {i : Nat} (rx : RAV ι h bd w x X) (e : exA x i = some av) :
  ∃ v, (Instr.extract X i).run P w = .ok v w ∧ RAV ι h bd w av v := by
 unfold exA at e
 split at e
 ·rename_i vs
  cases rx with
  | tup V hl hv =>
    have hlt : i < V.length := by rw [hl]; exact (List.getElem?_eq_some_iff.1 e).1
    have hu : V[i]? = some V[i] := List.getElem?_eq_getElem hlt
    exact ⟨V[i], by simp [Instr.extract, hu], hv i av _ e hu⟩
 ·cases e
theorem slE_some {t : TypeId} (he : (slE P t).isSome = true) : ∃ e, P.underlying t = some (.slice e) := by
 obtain ⟨e, h⟩ := Option.isSome_iff_exists.1 he
 exact ⟨e, slE_run h⟩
theorem len_ok {t ty : TypeId} {x av : AV} {X : Value} (rx : RAV ι h bd w x X) (e : lenA P t h x = some av) :
  ∃ v, (Builtin.len_ #[t] ty #[X]).run P w = .ok v w ∧ RAV ι h bd w av v := by
 unfold lenA at e
 split at e
 ·have h1 := rav_v_inv rx
  subst h1
  split at e
  ·rename_i hs
   injection e with e; subst e
   exact ⟨_, by simp [Builtin.len_, run_underlying (isStr_run hs), goInt], rav_v _⟩
  ·cases e
 ·have h1 := rav_v_inv rx
  subst h1
  split at e
  ·rename_i hs
   injection e with e; subst e
   obtain ⟨el, hel⟩ := slE_some hs
   exact ⟨_, by simp [Builtin.len_, run_underlying hel, goInt], rav_v _⟩
  ·cases e
 ·rename_i sz es
  split at e
  ·rename_i hs
   injection e with e; subst e
   obtain ⟨el, hel⟩ := slE_some hs
   obtain ⟨a, cap, U, rfl, _⟩ := sl_inv rx
   exact ⟨_, by simp [Builtin.len_, run_underlying hel, goInt], rav_v _⟩
  ·cases e
 ·split at e
  ·rename_i hs
   injection e with e; subst e
   obtain ⟨el, hel⟩ := slE_some hs.2
   obtain ⟨_, hX⟩ := win_inv rx hs.1
   rcases hX with rfl | ⟨rfl, rfl, rfl⟩
   ·exact ⟨_, by simp [Builtin.len_, run_underlying hel, goInt], rav_v _⟩
   ·exact ⟨_, by simp [Builtin.len_, run_underlying hel, goInt], rav_v _⟩
  ·cases e
 ·cases e
theorem cap_ok {t ty : TypeId} {x av : AV} {X : Value} (rx : RAV ι h bd w x X) (e : capA P t h x = some av) :
  ∃ v, (Builtin.cap_ #[t] ty #[X]).run P w = .ok v w ∧ RAV ι h bd w av v := by
 unfold capA at e
 split at e
 ·have h1 := rav_v_inv rx
  subst h1
  split at e
  ·rename_i hs
   injection e with e; subst e
   obtain ⟨el, hel⟩ := slE_some hs
   exact ⟨_, by simp [Builtin.cap_, run_underlying hel, goInt], rav_v _⟩
  ·cases e
 ·split at e
  ·rename_i hs
   injection e with e; subst e
   obtain ⟨el, hel⟩ := slE_some hs.2
   obtain ⟨_, hX⟩ := win_inv rx hs.1
   rcases hX with rfl | ⟨rfl, rfl, rfl⟩
   ·exact ⟨_, by simp [Builtin.cap_, run_underlying hel, goInt], rav_v _⟩
   ·exact ⟨_, by simp [Builtin.cap_, run_underlying hel, goInt], rav_v _⟩
  ·cases e
 ·cases e
theorem mm_ok {x y av : AV} {X Y : Value} (rx : RAV ι h bd w x X) (ry : RAV ι h bd w y Y) :
  (mm2 true x y = some av → ∃ v, (Builtin.max2 X Y).run P w = .ok v w ∧ RAV ι h bd w av v) ∧ (mm2 false x y = some av → ∃ v, (Builtin.min2 X Y).run P w = .ok v w ∧ RAV ι h bd w av v) := by
 constructor
 all_goals
  intro e
  unfold mm2 at e
  split at e
  ·have h1 := rav_v_inv rx
   have h2 := rav_v_inv ry
   subst h1; subst h2
   split at e
   ·rename_i hk
    subst hk
    injection e with e; subst e
    refine ⟨_, ?_, rav_v _⟩
    first
     | (simp only [Builtin.max2, cond_true]; show _ = Result.ok _ w; simp only [Sem.run_pure]; congr 2; rw [Int.max_def]; (repeat split) <;> omega)
     | (simp only [Builtin.min2, cond_false]; show _ = Result.ok _ w; simp only [Sem.run_pure]; congr 2; rw [Int.min_def]; (repeat split) <;> omega)
   ·cases e
  ·cases e
variable {P : Program} {ι : Nat → Nat} {h : Heap} {bd : Nat} {w : World}
theorem bound_ok {x : AV} {X : Value} (r : RAV ι h bd w x X) {y : Nat} {c : BoundsCode} {n : Nat} (e : bnd1 x y = some n) :
  (Instr.sliceBound X y c).run P w = .ok n w ∧ n ≤ y := by
 unfold bnd1 intOfA at e
 split at e
 ·rename_i k i
  have h1 := int_inv r
  subst h1
  simp only [Option.bind_some] at e
  split at e
  ·rename_i hc
   injection e with e
   subst e
   exact ⟨by simp [Instr.sliceBound, asIntOf, hc], by omega⟩
  ·cases e
 ·cases e
theorem bndA_inv {len cap : Nat} {lo hi mx : Option AV} {l u m : Nat} (e : bndA len cap lo hi mx = some (l, u, m)) : bndMx cap mx = some m ∧ bndHi len m mx.isSome hi = some u ∧ bndLo u lo = some l := by
 unfold bndA at e
 cases h1 : bndMx cap mx with
 | none => rw [h1] at e; simp at e
 | some m' =>
   rw [h1] at e
   simp only [Option.bind_some] at e
   cases h2 : bndHi len m' mx.isSome hi with
   | none => rw [h2] at e; simp at e
   | some u' =>
     rw [h2] at e
     simp only [Option.bind_some] at e
     cases h3 : bndLo u' lo with
     | none => rw [h3] at e; simp at e
     | some l' =>
       rw [h3] at e
       simp only [Option.map_some, Option.some.injEq, Prod.mk.injEq] at e
       obtain ⟨rfl, rfl, rfl⟩ := e
       exact ⟨rfl, h2, h3⟩
theorem bnd_ok {t : Nat → AV} {ρ : Operand → Value} (rel : ∀ x, RAV ι h bd w (val t x) (ρ x)) {g : Bool} {len cap : Nat} {lo hi mx : Option Operand} {l u m : Nat} (hlc : len ≤ cap)
  (e : bndA len cap (lo.map (val t)) (hi.map (val t)) (mx.map (val t)) = some (l, u, m)) :
  (Instr.sliceBounds g len cap (lo.map ρ) (hi.map ρ) (mx.map ρ)).run P w = .ok (l, u, m) w ∧ l ≤ u ∧ u ≤ m ∧ m ≤ cap := by
 obtain ⟨e1, e2, e3⟩ := bndA_inv e
 have H1 : m ≤ cap ∧ (mx = none → m = cap) ∧ (∀ x, mx = some x → ∀ c, (Instr.sliceBound (ρ x) cap c).run P w = .ok m w) := by
  cases mx with
  | none => injection e1 with e1; subst e1; exact ⟨Nat.le_refl _, fun _ => rfl, fun x hx => (by cases hx)⟩
  | some x => refine ⟨(bound_ok (P := P) (c := .index) (rel x) e1).2, fun h => (by cases h), fun y hy c => ?_⟩; injection hy with hy; subst hy; exact (bound_ok (rel x) e1).1
 have H2 : u ≤ m ∧ (∀ x, hi = some x → ∀ c, (Instr.sliceBound (ρ x) m c).run P w = .ok u w) ∧ (hi = none → mx = none ∧ u = len) := by
  cases hi with
  | none =>
    cases mx with
    | none =>
      have e2' : len = u := by simpa [bndHi] using e2
      subst e2'
      exact ⟨by rw [H1.2.1 rfl]; exact hlc, fun x hx => (by cases hx), fun _ => ⟨rfl, rfl⟩⟩
    | some y => simp [bndHi] at e2
  | some x =>
    refine ⟨(bound_ok (P := P) (c := .index) (rel x) e2).2, fun y hy c => ?_, fun h => (by cases h)⟩
    injection hy with hy; subst hy; exact (bound_ok (rel x) e2).1
 have H3 : l ≤ u ∧ (lo = none → l = 0) ∧ (∀ x, lo = some x → ∀ c, (Instr.sliceBound (ρ x) u c).run P w = .ok l w) := by
  cases lo with
  | none => injection e3 with e3; subst e3; exact ⟨Nat.zero_le _, fun _ => rfl, fun x hx => (by cases hx)⟩
  | some x => refine ⟨(bound_ok (P := P) (c := .index) (rel x) e3).2, fun h => (by cases h), fun y hy c => ?_⟩; injection hy with hy; subst hy; exact (bound_ok (rel x) e3).1
 refine ⟨?_, H3.1, H2.1, H1.1⟩
 cases mx with
 | none =>
   have hm' := H1.2.1 rfl
   subst hm'
   cases hi with
   | none =>
     have hu' := (H2.2.2 rfl).2
     subst hu'
     cases lo with
     | none => have := H3.2.1 rfl; subst this; simp [Instr.sliceBounds]
     | some z => simp [Instr.sliceBounds, H3.2.2 z rfl]
   | some y =>
     cases lo with
     | none => have := H3.2.1 rfl; subst this; simp [Instr.sliceBounds, H2.2.1 y rfl]
     | some z => simp [Instr.sliceBounds, H2.2.1 y rfl, H3.2.2 z rfl]
 | some x =>
   cases hi with
   | none => have := (H2.2.2 rfl).1; cases this
   | some y =>
     cases lo with
     | none => have := H3.2.1 rfl; subst this; simp [Instr.sliceBounds, H1.2.2 x rfl, H2.2.1 y rfl]
     | some z => simp [Instr.sliceBounds, H1.2.2 x rfl, H2.2.1 y rfl, H3.2.2 z rfl]
theorem bnd1_mono {x : AV} {y y' n : Nat} (hy : y ≤ y') (e : bnd1 x y = some n) : bnd1 x y' = some n := by
 unfold bnd1 at e ⊢
 cases hi : intOfA x with
 | none => rw [hi] at e; simp at e
 | some i =>
   rw [hi] at e
   simp only [Option.bind_some] at e ⊢
   split at e
   ·rename_i hc
    rw [if_pos ⟨hc.1, by omega⟩]
    exact e
   ·cases e
theorem bnd_mono {len cap cap' : Nat} {lo hi mx : Option AV} {l u m : Nat} (hc : cap ≤ cap') (e : bndA len cap lo hi mx = some (l, u, m)) : ∃ m', bndA len cap' lo hi mx = some (l, u, m') := by
 obtain ⟨e1, e2, e3⟩ := bndA_inv e
 cases mx with
 | some v =>
   refine ⟨m, ?_⟩
   have e1' : bndMx cap' (some v) = some m := bnd1_mono hc e1
   simp only [bndA, e1', Option.bind_some, e2, e3, Option.map_some]
 | none =>
   injection e1 with e1
   subst e1
   refine ⟨cap', ?_⟩
   have e2' : bndHi len cap' (none : Option AV).isSome hi = some u := by
    cases hi with
    | none => exact e2
    | some v => exact bnd1_mono hc e2
   simp only [bndA, bndMx, Option.bind_some, e2', e3, Option.map_some]
theorem slc_ok {t : Nat → AV} {ρ : Operand → Value} (rel : ∀ x, RAV ι h bd w (val t x) (ρ x)) {ty : TypeId} {x : Operand} {lo hi mx : Option Operand} {av : AV}
  (e : slcA P ty h (val t x) (lo.map (val t)) (hi.map (val t)) (mx.map (val t)) = some av) :
  ∃ v, (Instr.sliceAt ty (ρ x) (lo.map ρ) (hi.map ρ) (mx.map ρ)).run P w = .ok v w ∧ RAV ι h bd w av v := by
 have r := rel x
 generalize ρ x = X at r
 unfold slcA at e
 split at e
 ·rename_i s hx
  rw [hx] at r
  split at e
  ·rename_i hc
   have hX := rav_v_inv r
   subst hX
   have hmx : mx = none := by cases mx with | none => rfl | some y => simp at hc
   subst hmx
   cases hb : bndA s.size s.size (lo.map (val t)) (hi.map (val t)) none with
   | none => rw [hb] at e; simp at e
   | some q =>
     obtain ⟨l, u, m⟩ := q
     rw [hb] at e
     simp only [Option.map_some, Option.some.injEq] at e
     subst e
     have hb' := (bnd_ok (P := P) rel (g := false) (mx := none) (Nat.le_refl _) hb).1
     exact ⟨_, by simp only [Option.map_none] at hb' ⊢; simp [Instr.sliceAt, Instr.slice, run_underlying (isStr_run hc.1), hb'], rav_v _⟩
  ·cases e
 ·rename_i sz es hx
  rw [hx] at r
  split at e
  ·rename_i z hz
   split at e
   ·rename_i hzz
    subst hzz
    obtain ⟨el, hu, hs⟩ := slS_run hz
    obtain ⟨a, cap, U, rfl, g1, g2, g3, g4, g5, g6⟩ := sl_inv r
    cases hb : bndA es.length es.length (lo.map (val t)) (hi.map (val t)) (mx.map (val t)) with
    | none => rw [hb] at e; simp at e
    | some q =>
      obtain ⟨l, u, m⟩ := q
      rw [hb] at e
      simp only [Option.map_some, Option.some.injEq] at e
      subst e
      obtain ⟨m', hb2⟩ := bnd_mono g1 hb
      obtain ⟨k1, k2, k3, k4⟩ := bnd_ok (P := P) rel (g := true) g1 hb2
      have hu2 : u ≤ es.length := by
       obtain ⟨_, _, q3, q4⟩ := bnd_ok (P := P) rel (g := true) (Nat.le_refl es.length) hb
       omega
      refine ⟨.slice (if m' = l then a else a.map (·.add (l * z))) (u - l) (m' - l), ?_, ?_⟩
      ·simp [Instr.sliceAt, Instr.slice, run_underlying hu, k1, tsz_run hs]
      ·have hlen : ((es.drop l).take (u - l)).length = u - l := by simp; omega
       have := RPD.sl (S := stab ι h) (w := w) (sz := z) (es := (es.drop l).take (u - l)) (if m' = l then a else a.map (·.add (l * z))) (m' - l) (fun i j => U (l + i) j) (by rw [hlen]; omega)
        (fun hn => by
         split at hn
         ·omega
         ·cases a with
          | none => have := g2 rfl; omega
          | some A => simp at hn)
        (fun A hA => by
         by_cases hz0 : (es.drop l).take (u - l) = []
         ·exact .inl hz0
         ·have hes : es ≠ [] := fun hh => hz0 (by rw [hh]; simp)
          right
          split at hA
          ·exact (g3 A hA).resolve_left hes
          ·cases a with
           | none => simp at hA
           | some B =>
             simp at hA
             subst hA
             have := (g3 B rfl).resolve_left hes
             unfold Addr.add
             split <;> simp_all)
        (fun e he => g4 e (List.mem_of_mem_drop (List.mem_of_mem_take he)))
        (fun i e he j d hd => by
         have hi : i < u - l := by
          rcases Nat.lt_or_ge i (u - l) with h' | h'
          ·exact h'
          ·rw [List.getElem?_take, if_neg (by omega)] at he; cases he
         rw [List.getElem?_take, if_pos hi, List.getElem?_drop] at he
         obtain ⟨A, hA, q1, q2⟩ := g5 _ e he j d hd
         subst hA
         have hsp := (g3 A rfl).resolve_left (fun hh => by rw [hh] at he; simp at he)
         have hne : ¬ m' = l := by omega
         rw [if_neg hne]
         refine ⟨⟨A.block, A.off + l * z, none⟩, ?_, q1, ?_⟩
         ·simp only [Option.map_some]; rw [addr_eta hsp, add_none]
         ·show w.cell? ⟨A.block, A.off + l * z + (i * z + j), none⟩ = _
          rw [← q2]
          congr 2
          rw [Nat.add_mul]; omega)
        (fun i e he j d hd => by
         have hi : i < u - l := by
          rcases Nat.lt_or_ge i (u - l) with h' | h'
          ·exact h'
          ·rw [List.getElem?_take, if_neg (by omega)] at he; cases he
         rw [List.getElem?_take, if_pos hi, List.getElem?_drop] at he
         exact g6 _ e he j d hd)
       rw [hlen] at this
       exact .one (.p this)
   ·cases e
  ·cases e
 ·rename_i id ver off len cap hx
  rw [hx] at r
  split at e
  ·rename_i z hz
   split at e
   ·rename_i hl
    obtain ⟨el, hu, hs⟩ := slS_run hz
    obtain ⟨hlc, hX⟩ := win_inv r hl
    cases hb : bndA len cap (lo.map (val t)) (hi.map (val t)) (mx.map (val t)) with
    | none => rw [hb] at e; simp at e
    | some q =>
      obtain ⟨l, u, m⟩ := q
      rw [hb] at e
      simp only [Option.map_some, Option.some.injEq] at e
      subst e
      obtain ⟨k1, k2, k3, k4⟩ := bnd_ok (P := P) rel (g := true) hlc hb
      rcases hX with rfl | ⟨rfl, rfl, rfl⟩
      ·refine ⟨.slice (some (if m = l then ⟨ι id, off, none⟩ else ⟨ι id, off + l * z, none⟩)) (u - l) (m - l), ?_, ?_⟩
       ·simp only [Instr.sliceAt, Instr.slice, Sem.run_bind, run_underlying hu, Result.andThen, k1, tsz_run hs, Sem.run_pure, Option.map_some, add_none]
        split <;> rfl
       ·refine .one (.win (win_hd r).1 (win_hd r).2 (fun _ _ _ => ⟨by omega, .inl ?_⟩))
        split <;> rfl
      ·have hm : m = 0 := by omega
       have hu0 : u = 0 := by omega
       have hl0 : l = 0 := by omega
       subst hm; subst hu0; subst hl0
       refine ⟨.slice none 0 0, ?_, .one (.win (win_hd r).1 (win_hd r).2 (fun _ _ _ => ⟨by omega, .inr ⟨rfl, rfl, rfl⟩⟩))⟩
       simp [Instr.sliceAt, Instr.slice, run_underlying hu, k1, tsz_run hs]
   ·cases e
  ·cases e
 ·rename_i id ver off hx
  rw [hx] at r
  split at e
  ·rename_i n z hz
   split at e
   ·rename_i hl
    obtain ⟨el, hu, hs⟩ := arS_run hz
    obtain ⟨b, hb', hv⟩ := live_run hl
    have hX := ptr_inv r hb' hv
    subst hX
    cases hb : bndA n n (lo.map (val t)) (hi.map (val t)) (mx.map (val t)) with
    | none => rw [hb] at e; simp at e
    | some q =>
      obtain ⟨l, u, m⟩ := q
      rw [hb] at e
      simp only [Option.map_some, Option.some.injEq] at e
      subst e
      obtain ⟨k1, k2, k3, k4⟩ := bnd_ok (P := P) rel (g := false) (Nat.le_refl n) hb
      refine ⟨.slice (some (if m = l then ⟨ι id, off, none⟩ else ⟨ι id, off + l * z, none⟩)) (u - l) (m - l), ?_, ?_⟩
      ·simp only [Instr.sliceAt, Sem.run_bind, run_underlying hu, Instr.sureAddr, Result.andThen, k1, tsz_run hs, Sem.run_pure, add_none]
      ·refine .one (.win (ptr_hd r).1 (ptr_hd r).2 (fun _ _ _ => ⟨by omega, .inl ?_⟩))
       split <;> rfl
   ·cases e
  ·cases e
 ·cases e
variable {P : Program} {ι : Nat → Nat} {h : Heap} {bd : Nat} {w : World}
def Reps (ι : Nat → Nat) (h : Heap) (bd : Nat) (w : World) (cs : List Cell) (V : List Value) : Prop :=
 V.length = cs.length ∧ ∀ (i : Nat) (c : Cell) (u : Value), cs[i]? = some c → V[i]? = some u → RCell ι h bd w c u
theorem foldl_set (off : Nat) : ∀ (vs : List Value) (k : Nat) (cells : Array Value), off + k + vs.length ≤ cells.size →
  ((vs.zipIdx k).foldl (fun cs (x : Value × Nat) => cs.setIfInBounds (off + x.2) x.1) cells).toList = cells.toList.take (off + k) ++ (vs ++ cells.toList.drop (off + k + vs.length))
 | [], k, cells, _ => by simp
 | v :: vs, k, cells, hle => by
   simp only [List.length_cons] at hle
   rw [List.zipIdx_cons, List.foldl_cons, foldl_set off vs (k + 1) _ (by simp; omega)]
   have hlt : off + k < cells.toList.length := by simp; omega
   simp only [Array.toList_setIfInBounds, List.length_cons]
   apply List.ext_getElem?
   intro i
   simp only [List.getElem?_append, List.length_take, List.length_set, List.getElem?_take, List.getElem?_set, List.getElem?_cons, List.length_cons, List.getElem?_drop]
   have hl : cells.toList.length = cells.size := by simp
   rw [hl]
   by_cases h1 : i < off + k
   ·have : off + k ≠ i := by omega
    simp [show i < min (off + (k + 1)) cells.size by omega, show i < min (off + k) cells.size by omega, show i < off + (k + 1) by omega, h1, this]
   ·by_cases h2 : i = off + k
    ·subst h2
     simp [show off + k < min (off + (k + 1)) cells.size by omega, show ¬ off + k < min (off + k) cells.size by omega, show off + k < off + (k + 1) by omega, show off + k - min (off + k) cells.size = 0 by omega]
     omega
    ·have e1 : ¬ i < min (off + (k + 1)) cells.size := by omega
     have e2 : ¬ i < min (off + k) cells.size := by omega
     have e3 : i - min (off + k) cells.size = (i - min (off + (k + 1)) cells.size) + 1 := by omega
     simp only [e1, e2, if_false, e3]
     by_cases h3 : i - min (off + (k + 1)) cells.size < vs.length
     ·simp [h3]
     ·have : off + (k + 1) + vs.length + (i - min (off + (k + 1)) cells.size - vs.length) = off + k + (vs.length + 1) + (i - min (off + (k + 1)) cells.size + 1 - (vs.length + 1)) := by omega
      simp [h3, show ¬ off + k = off + (k + 1) + vs.length + (i - min (off + (k + 1)) cells.size - vs.length) by omega]
      congr 1
      omega
theorem Reps.spl {cs d : List Cell} {V D : List Value} {off : Nat} (r : Reps ι h bd w cs V) (q : Reps ι h bd w d D) (hle : off + d.length ≤ cs.length) :
  Reps ι h bd w (spl cs off d) (V.take off ++ (D ++ V.drop (off + D.length))) := by
 obtain ⟨hl, hv⟩ := r
 obtain ⟨ql, qv⟩ := q
 refine ⟨by simp [Am.spl, hl, ql], fun i c u hc hu => ?_⟩
 unfold Am.spl at hc
 simp only [List.getElem?_append, List.length_take, List.getElem?_take, List.getElem?_drop, hl, ql] at hc hu
 split at hc
 ·rename_i h1
  rw [if_pos h1] at hu
  rw [if_pos (by omega)] at hc hu
  exact hv i c u hc hu
 ·rename_i h1
  rw [if_neg h1] at hu
  split at hc
  ·rename_i h2
   rw [if_pos h2] at hu
   exact qv _ c u hc hu
  ·rename_i h2
   rw [if_neg h2] at hu
   exact hv _ c u hc hu
theorem okC_run {c : Cell} {v : Value} (r : RCell ι h bd w c v) (ok : okC h c = true) : v.oneCell' = true ∧ v.cells = #[v] := by
 cases r with
 | p hd => cases hd with
   | v x => refine ⟨ok, ?_⟩; cases v <;> first | rfl | (simp [okC, Value.oneCell'] at ok)
   | sl a cap U => exact ⟨rfl, rfl⟩
   | slc h => exact ⟨rfl, rfl⟩
 | junk v => cases ok
 | ptr hid hver hv =>
   obtain ⟨b, hb, he⟩ := live_run ok
   have := hv b hb he
   subst this
   exact ⟨rfl, rfl⟩
 | ro A U => exact ⟨rfl, rfl⟩
 | win hid hver hv =>
   obtain ⟨b, hb, he⟩ := live_run ok
   rcases (hv b hb he).2 with rfl | ⟨rfl, _⟩ <;> exact ⟨rfl, rfl⟩
 | clo F C => exact ⟨rfl, rfl⟩
theorem reps_one {c : Cell} {v : Value} (r : RCell ι h bd w c v) : Reps ι h bd w [c] [v] := by
 refine ⟨rfl, fun i d u hd hu => ?_⟩
 cases i with
 | zero => simp at hd hu; subst hd; subst hu; exact r
 | succ i => simp at hd
theorem reps_cells {x : AV} {X : Value} (r : RAV ι h bd w x X) (ok : ∀ c, x = .one c → okC h c = true) (ht : ∀ vs, x ≠ .tup vs) : Reps ι h bd w (cellsA x) X.cells.toList := by
 cases r with
 | one hc => rw [(okC_run hc (ok _ rfl)).2]; exact reps_one hc
 | agg V hl hv => exact ⟨hl, hv⟩
 | tup V hl hv => exact absurd rfl (ht _)
theorem fill_ok {place : Nat → Option (Nat × Nat)} : ∀ (parts : List (Nat × AV)) (PV : List (Nat × Value)), PV.length = parts.length →
  (∀ (k i : Nat) (x : AV), parts[k]? = some (i, x) → ∃ X, PV[k]? = some (i, X) ∧ RAV ι h bd w x X) →
  ∀ (cs : List Cell) (V : Array Value), Reps ι h bd w cs V.toList → ∀ cs', fillA h place cs parts = some cs' → ∃ V', Instr.fill place V PV = some V' ∧ Reps ι h bd w cs' V'.toList
 | [], PV, hl, _, cs, V, r, cs', e => by
   have : PV = [] := List.eq_nil_of_length_eq_zero hl
   subst this
   injection e with e
   subst e
   exact ⟨V, rfl, r⟩
 | (i, x) :: rest, PV, hl, hp, cs, V, r, cs', e => by
   obtain ⟨X, hX, rx⟩ := hp 0 i x rfl
   cases PV with
   | nil => simp at hX
   | cons p PV =>
     simp at hX
     subst hX
     have hp' : ∀ (k i : Nat) (x : AV), rest[k]? = some (i, x) → ∃ X, PV[k]? = some (i, X) ∧ RAV ι h bd w x X := fun k i x hk => hp (k + 1) i x (by simpa using hk)
     have hl' : PV.length = rest.length := by simpa using hl
     have main : ∀ (off size : Nat) (d : List Cell), place i = some (off, size) → Reps ι h bd w d X.cells.toList → d.length = size → off + d.length ≤ cs.length → fillA h place (spl cs off d) rest = some cs' →
       ∃ V', Instr.fill place V ((i, X) :: PV) = some V' ∧ Reps ι h bd w cs' V'.toList := by
      intro off size d hpl q hs hle e'
      have hq := q.1
      have hr := r.1
      simp only [Array.length_toList] at hq hr
      have hf : X.cells.zipIdx.foldl (fun cs (c, j) => cs.setIfInBounds (off + j) c) V = (V.toList.take off ++ (X.cells.toList ++ V.toList.drop (off + X.cells.toList.length))).toArray := by
       apply Array.ext'
       have := foldl_set off X.cells.toList 0 V (by simp; omega)
       rw [← Array.foldl_toList, Array.toList_zipIdx]
       simpa using this
      have q2 := Reps.spl r q hle
      obtain ⟨V', h1, h2⟩ := fill_ok rest PV hl' hp' _ (V.toList.take off ++ (X.cells.toList ++ V.toList.drop (off + X.cells.toList.length))).toArray (by simpa using q2) cs' e'
      refine ⟨V', ?_, h2⟩
      unfold Instr.fill
      simp only [hpl]
      have hc : (decide (X.cells.size ≠ size) || decide (off + X.cells.size > V.size)) = false := by simp; omega
      rw [hc, hf]
      exact h1
     unfold fillA at e
     split at e
     ·rename_i off size hpl
      split at e
      ·rename_i c
       split at e
       ·rename_i hc
        refine main off size [c] hpl (reps_cells rx (fun c' h' => by injection h' with h'; subst h'; exact hc.1) (fun _ h' => by cases h')) hc.2.1.symm hc.2.2 e
       ·cases e
      ·rename_i d
       split at e
       ·rename_i hc
        exact main off size d hpl (reps_cells rx (fun c' h' => by cases h') (fun _ h' => by cases h')) hc.1 hc.2 e
       ·cases e
      ·cases e
     ·cases e
theorem reps_vs (vs : List Value) : Reps ι h bd w (vs.map fun v => .p (.v v)) vs := by
 refine ⟨by simp, fun i c u hc hu => ?_⟩
 rw [List.getElem?_map, hu] at hc
 simp at hc
 subst hc
 exact .p (.v u)
theorem tzero_run {t : TypeId} {zs : List Value} (e : tzero P t = some zs) : ∃ i z, P.info? t = some i ∧ i.zero = some z ∧ z.cells.toList = zs := by
 unfold tzero at e
 cases hi : P.info? t with
 | none => rw [hi] at e; simp at e
 | some i =>
   cases hz : i.zero with
   | none => rw [hi] at e; simp [hz] at e
   | some z => rw [hi] at e; simp [hz] at e; exact ⟨i, z, rfl, hz, e⟩
theorem tsz_info {t : TypeId} {n : Nat} (e : tsz P t = some n) : ∃ i, P.info? t = some i ∧ i.size = n := by
 unfold tsz at e
 cases hi : P.info? t with
 | none => rw [hi] at e; simp at e
 | some i => rw [hi] at e; simp at e; exact ⟨i, rfl, e⟩
theorem bld_ok {t : Nat → AV} {ρ : Operand → Value} (rel : ∀ x, RAV ι h bd w (val t x) (ρ x)) {ty : TypeId} {parts : Array (Nat × Operand)} {av : AV}
  (e : bldA P h ty (parts.toList.map fun (i, x) => (i, val t x)) = some av) :
  ∃ v, (Instr.build ty (parts.map fun (i, x) => (i, ρ x))).run P w = .ok v w ∧ RAV ι h bd w av v := by
 have hp : ∀ (k i : Nat) (x : AV), (parts.toList.map fun (i, x) => (i, val t x))[k]? = some (i, x) → ∃ X, ((parts.map fun (i, x) => (i, ρ x)).toList)[k]? = some (i, X) ∧ RAV ι h bd w x X := by
  intro k i x hk
  rw [List.getElem?_map] at hk
  cases hq : parts.toList[k]? with
  | none => rw [hq] at hk; simp at hk
  | some q =>
    obtain ⟨j, y⟩ := q
    rw [hq] at hk
    simp at hk
    obtain ⟨rfl, rfl⟩ := hk
    exact ⟨ρ y, by rw [Array.toList_map, List.getElem?_map, hq]; rfl, rel y⟩
 have hlen : ((parts.map fun (i, x) => (i, ρ x)).toList).length = (parts.toList.map fun (i, x) => (i, val t x)).length := by simp
 unfold bldA at e
 split at e
 ·rename_i zs hz
  obtain ⟨it, z, hi, hiz, hzs⟩ := tzero_run hz
  have hz0 : Reps ι h bd w (zs.map fun v => .p (.v v)) z.cells.toList := by rw [hzs]; exact reps_vs zs
  split at e
  ·rename_i n sz har
   obtain ⟨el, hu, hs⟩ := arS_run har
   obtain ⟨ie, hie, hies⟩ := tsz_info hs
   cases hf : fillA h (fun i => some (i * sz, sz)) (zs.map fun v => .p (.v v)) (parts.toList.map fun (i, x) => (i, val t x)) with
   | none => rw [hf] at e; simp at e
   | some cs' =>
     rw [hf] at e
     simp only [Option.map_some, Option.some.injEq] at e
     subst e
     obtain ⟨V', h1, h2⟩ := fill_ok _ _ hlen hp _ _ hz0 cs' hf
     refine ⟨.agg V', run_build w ty _ V' ?_, .agg V'.toList h2.1 h2.2⟩
     unfold Program.built
     rw [hi, hu]
     simp only [hiz, hie, hies]
     exact h1
  ·split at e
   ·rename_i pl hpl
    unfold stPl at hpl
    split at hpl
    ·rename_i fs hu
     cases hf : fillA h (pl[·]?) (zs.map fun v => .p (.v v)) (parts.toList.map fun (i, x) => (i, val t x)) with
     | none => rw [hf] at e; simp at e
     | some cs' =>
       rw [hf] at e
       simp only [Option.map_some, Option.some.injEq] at e
       subst e
       obtain ⟨V', h1, h2⟩ := fill_ok _ _ hlen hp _ _ hz0 cs' hf
       refine ⟨.agg V', run_build w ty _ V' ?_, .agg V'.toList h2.1 h2.2⟩
       unfold Program.built
       rw [hi, hu]
       simp only [hiz, hpl]
       simpa using h1
    ·cases hpl
   ·cases e
 ·cases e
theorem cellOnes_ok {t : Nat → AV} {ρ : Operand → Value} (rel : ∀ x, RAV ι h bd w (val t x) (ρ x)) : ∀ (xs : List Operand) (cs : List Cell), cellOnes (xs.map (val t)) = some cs → Reps ι h bd w cs (xs.map ρ)
 | [], cs, e => by injection e with e; subst e; exact ⟨rfl, fun _ _ _ hh => by simp at hh⟩
 | x :: xs, cs, e => by
   simp only [List.map_cons] at e
   have r := rel x
   generalize val t x = a at r e
   cases a with
   | one c =>
     simp only [cellOnes] at e
     cases hr : cellOnes (xs.map (val t)) with
     | none => rw [hr] at e; simp at e
     | some cs' =>
       rw [hr] at e
       simp at e
       subst e
       have ih := cellOnes_ok rel xs cs' hr
       refine ⟨by simp [ih.1], fun i d u hd hu => ?_⟩
       cases i with
       | zero => simp at hd hu; subst hd; subst hu; cases r with | one hc => exact hc
       | succ i => exact ih.2 i d u (by simpa using hd) (by simpa using hu)
   | agg cs => simp [cellOnes] at e
   | tup vs => simp [cellOnes] at e
def constsOf (xs : Array Operand) : Array Bool := xs.map fun | .const _ => true | _ => false
theorem callee_builtin (ρ : Operand → Value) (b : Builtin) (xs : Array Operand) (tys : Array TypeId) (dst : Option Tmp) (ty : TypeId) (pos : String) (after : Array Edge) (guard : Option (Nat × Bool)) :
  execOp ρ ⟨dst, .call ⟨.builtin b, xs, tys⟩, ty, pos, after, guard⟩ = builtin b tys ty (constsOf xs) (xs.map ρ) := by
 simp only [execOp, resolve, invoke]
 rfl
theorem mkIf_ok {P : Program} {ι : Nat → Nat} {h : Heap} {bd : Nat} {w : World} {t : TypeId} {x av : AV} {X : Value} (rx : RAV ι h bd w x X) (e : mkIf P t x = some av) :
  ∃ v, (Instr.makeInterface t X).run P w = .ok v w ∧ RAV ι h bd w av v := by
 have hc : isCon P t = true → ∀ V, (Instr.makeInterface t V).run P w = .ok (.iface t V) w := by
  intro hc V
  unfold isCon at hc
  split at hc
  ·cases hc
  ·rename_i D hn hD
   simp only [Instr.makeInterface, Sem.run_bind, run_underlying hD, Result.andThen]
   cases D <;> first | rfl | exact absurd rfl (hn _)
  ·cases hc
 unfold mkIf at e
 split at e
 ·have h1 := rav_v_inv rx
  subst h1
  split at e
  ·rename_i h; injection e with e; subst e; exact ⟨_, hc h _, rav_v _⟩
  ·cases e
 ·split at e
  ·rename_i h
   injection e with e; subst e
   cases rx with
   | agg V hl hv =>
     obtain rfl : V = [] := List.eq_nil_of_length_eq_zero hl
     exact ⟨_, hc h _, rav_v _⟩
  ·cases e
 ·cases e
theorem tas_ok {P : Program} {ι : Nat → Nat} {h : Heap} {bd : Nat} {w : World} {t xt : TypeId} {ok : Bool} {x av : AV} {X : Value} (rx : RAV ι h bd w x X) (e : tasA P x t ok = some av) :
  ∃ v, (Instr.typeAssert X xt t ok).run P w = .ok v w ∧ RAV ι h bd w av v := by
 unfold tasA at e
 split at e
 ·rename_i u v
  have h1 := rav_v_inv rx
  subst h1
  split at e
  ·rename_i hc
   obtain ⟨hc, rfl, rfl⟩ := hc
   injection e with e; subst e
   refine ⟨.tuple #[v, .bool true], ?_, ?_⟩
   ·unfold isCon at hc
    split at hc
    ·cases hc
    ·rename_i D hn hD
     simp only [Instr.typeAssert, Sem.run_bind, run_underlying hD, Result.andThen]
     cases D <;> first | rfl | (simp; rfl) | exact absurd rfl (hn _)
    ·cases hc
   ·refine .tup [v, .bool true] rfl (fun i c u hc hu => ?_)
    match i with
    | 0 => simp at hc hu; subst hc; subst hu; exact rav_ofV _
    | 1 => simp at hc hu; subst hc; subst hu; exact rav_v _
    | i + 2 => simp at hc
  ·cases e
 ·cases e
theorem sop_ok {P : Program} {ι : Nat → Nat} {h : Heap} {bd : Nat} {w : World} {t : Nat → AV} {ρ : Operand → Value} (rel : ∀ x, RAV ι h bd w (val t x) (ρ x)) (H : HeapOK ι h bd w) {o : Oper} {av : AV}
  (e : sop P t h o = some av) : ∃ v, (execOp ρ o).run P w = .ok (.value v) w ∧ RAV ι h bd w av v := by
 have vv : ∀ {s : Sem Value} {v : Value}, s.run P w = .ok v w → (do pure (.value (← s)) : Sem Next).run P w = .ok (.value v) w := by
  intro s v hs
  simp only [Sem.run_bind, hs, Result.andThen, Sem.run_pure]
 obtain ⟨dst, op, ty, pos, after, guard⟩ := o
 unfold sop at e
 simp only at e
 split at e
 ·injection e with e; subst e; exact ⟨_, rfl, rel _⟩
 ·injection e with e; subst e; exact ⟨_, rfl, rel _⟩
 ·rename_i c a b
  have rc := rel c
  split at e
  ·rename_i g hg
   rw [hg] at rc
   have hc := rav_v_inv rc
   injection e with e
   subst e
   refine ⟨if g then ρ a else ρ b, ?_, ?_⟩
   ·simp only [execOp, hc, asBool, Sem.run_bind, Sem.run_pure, Result.andThen]
   ·cases g
    ·exact rel b
    ·exact rel a
  ·cases e
 ·obtain ⟨v, h1, h2⟩ := ld_ok (P := P) H (rel _) e; exact ⟨v, vv h1, h2⟩
 ·obtain ⟨v, h1, h2⟩ := fld_ok (P := P) (rel _) e; exact ⟨v, vv h1, h2⟩
 ·obtain ⟨v, h1, h2⟩ := field_ok (P := P) (rel _) e; exact ⟨v, vv h1, h2⟩
 ·obtain ⟨v, h1, h2⟩ := idx_ok (P := P) (rel _) (rel _) e; exact ⟨v, vv h1, h2⟩
 ·obtain ⟨v, h1, h2⟩ := idxV_ok (P := P) (rel _) (rel _) e; exact ⟨v, vv h1, h2⟩
 ·obtain ⟨v, h1, h2⟩ := bin_ok (P := P) (rel _) (rel _) e; exact ⟨v, vv h1, h2⟩
 ·obtain ⟨v, h1, h2⟩ := un_ok (P := P) (rel _) e; exact ⟨v, vv h1, h2⟩
 ·obtain ⟨v, h1, h2⟩ := conv_ok (P := P) H (rel _) e; exact ⟨v, vv h1, h2⟩
 ·obtain ⟨v, h1, h2⟩ := slc_ok (P := P) rel e; exact ⟨v, vv h1, h2⟩
 ·obtain ⟨v, h1, h2⟩ := ex_ok (P := P) (rel _) e; exact ⟨v, vv h1, h2⟩
 ·rename_i x
  have rx := rel x
  unfold nilV at e
  split at e
  ·rename_i id ver off hg
   rw [hg] at rx
   split at e
   ·rename_i hl
    injection e with e; subst e
    obtain ⟨b, hb, hv⟩ := live_run hl
    have hX := ptr_inv rx hb hv
    exact ⟨ρ x, by simp only [execOp, hX]; rfl, rx⟩
   ·cases e
  ·rename_i cs hg
   rw [hg] at rx
   injection e with e; subst e
   obtain ⟨A, U, hX, _⟩ := ro_inv rx
   exact ⟨ρ x, by simp only [execOp, hX]; rfl, rx⟩
  ·rename_i f a b hg
   rw [hg] at rx
   injection e with e; subst e
   refine ⟨ρ x, ?_, rx⟩
   have hX : ∃ F C, ρ x = .func (.func f) F C := by
    revert rx
    generalize ρ x = X
    intro rx
    cases rx with
    | one hc => cases hc with | clo F C hF hC h1 h2 => exact ⟨_, _, rfl⟩
   obtain ⟨F, C, hX⟩ := hX
   simp only [execOp, hX]; rfl
  ·cases e
 ·obtain ⟨v, h1, h2⟩ := mkIf_ok (P := P) (rel _) e; exact ⟨v, vv h1, h2⟩
 ·obtain ⟨v, h1, h2⟩ := tas_ok (P := P) (rel _) e; exact ⟨v, vv h1, h2⟩
 ·obtain ⟨v, h1, h2⟩ := bld_ok (P := P) rel e; exact ⟨v, vv h1, h2⟩
 ·rename_i fn first cap
  split at e
  ·rename_i a b ha hb
   injection e with e; subst e
   have r1 := cellOnes_ok rel _ _ ha
   have r2 := cellOnes_ok rel _ _ hb
   refine ⟨.func fn (first.map ρ) (cap.map ρ), rfl, ?_⟩
   have := RAV.one (RCell.clo (ι := ι) (h := h) (bd := bd) (w := w) (fn := fn) (first := a) (cap := b) _ _ r1.1 r2.1 r1.2 r2.2)
   have e1 : (List.map ρ first.toList).toArray = Array.map ρ first := by apply Array.ext'; simp
   have e2 : (List.map ρ cap.toList).toArray = Array.map ρ cap := by apply Array.ext'; simp
   rw [e1, e2] at this
   exact this
  ·cases e
 ·rename_i xs tys
  rw [callee_builtin]
  split at e
  ·rename_i x t1 hx ht
   have hx' : xs = #[x] := by rw [← Array.toList_inj]; exact hx
   have ht' : tys = #[t1] := by rw [← Array.toList_inj]; exact ht
   subst hx'; subst ht'
   have hm : Array.map ρ #[x] = #[ρ x] := by simp
   rw [hm]
   obtain ⟨v, h1, h2⟩ := len_ok (P := P) (ty := ty) (rel x) e
   exact ⟨v, vv h1, h2⟩
  ·cases e
 ·rename_i xs tys
  rw [callee_builtin]
  split at e
  ·rename_i x t1 hx ht
   have hx' : xs = #[x] := by rw [← Array.toList_inj]; exact hx
   have ht' : tys = #[t1] := by rw [← Array.toList_inj]; exact ht
   subst hx'; subst ht'
   have hm : Array.map ρ #[x] = #[ρ x] := by simp
   rw [hm]
   obtain ⟨v, h1, h2⟩ := cap_ok (P := P) (ty := ty) (rel x) e
   exact ⟨v, vv h1, h2⟩
  ·cases e
 ·rename_i xs tys
  rw [callee_builtin]
  split at e
  ·rename_i x y hx
   have hx' : xs = #[x, y] := by rw [← Array.toList_inj]; exact hx
   subst hx'
   have hm : Array.map ρ #[x, y] = #[ρ x, ρ y] := by simp
   rw [hm]
   obtain ⟨v, h1, h2⟩ := (mm_ok (P := P) (rel x) (rel y)).2 e
   refine ⟨v, vv (s := Builtin.min_ tys ty #[ρ x, ρ y]) ?_, h2⟩
   simp only [Builtin.min_, List.foldlM_cons, List.foldlM_nil, Sem.run_bind, h1, Result.andThen, Sem.run_pure]
  ·cases e
 ·rename_i xs tys
  rw [callee_builtin]
  split at e
  ·rename_i x y hx
   have hx' : xs = #[x, y] := by rw [← Array.toList_inj]; exact hx
   subst hx'
   have hm : Array.map ρ #[x, y] = #[ρ x, ρ y] := by simp
   rw [hm]
   obtain ⟨v, h1, h2⟩ := (mm_ok (P := P) (rel x) (rel y)).1 e
   refine ⟨v, vv (s := Builtin.max_ tys ty #[ρ x, ρ y]) ?_, h2⟩
   simp only [Builtin.max_, List.foldlM_cons, List.foldlM_nil, Sem.run_bind, h1, Result.andThen, Sem.run_pure]
  ·cases e
 ·cases e
abbrev KT := AV → Heap → Nat → Prop
def AOp (P : Program) (C : Ctx) (o : Oper) (s : St) (E : Exit → St → Prop) (K : KT) : Prop :=
 ∀ a w ι, Inv C ι s a w → ∀ (next : Act → World → Prop) (Q : Exit → Act → World → Prop), (∀ e s' ι' a' w', E e s' → Inv C ι' s' a' w' → Q e a' w') →
   (∀ v av h' n' ι' w', K av h' n' → Inv C ι' ⟨s.t, h', n'⟩ a w' → RAV ι' h' (C.b + n') w' av v → next (a.put o.dst v) w') → o.wp P a w next Q
def Gives (P : Program) (C : Ctx) (t : Nat → AV) (h : Heap) (n : Nat) (m : (Operand → Value) → Sem Value) (K : KT) : Prop :=
 ∀ a w ι, Inv C ι ⟨t, h, n⟩ a w → ∃ v w' av h' n' ι', (m a.eval).run P w = .ok v w' ∧ K av h' n' ∧ Inv C ι' ⟨t, h', n'⟩ a w' ∧ RAV ι' h' (C.b + n') w' av v
theorem AOp.of_gives {P : Program} {C : Ctx} {o : Oper} {t : Nat → AV} {h : Heap} {n : Nat} {E : Exit → St → Prop} {K : KT} {m : (Operand → Value) → Sem Value}
  (hm : ∀ ρ, execOp ρ o = (do pure (.value (← m ρ)))) (g : Gives P C t h n m K) : AOp P C o ⟨t, h, n⟩ E K := by
 intro a w ι I next Q _ hn
 obtain ⟨v, w', av, h', n', ι', h1, h2, h3, h4⟩ := g a w ι I
 unfold Oper.wp
 rw [hm]
 simp only [Sem.run_bind, h1, Result.andThen, Sem.run_pure, Oper.upon_value]
 exact hn v av h' n' ι' w' h2 h3 h4
theorem AOp.of_sop {P : Program} {C : Ctx} {o : Oper} {s : St} {E : Exit → St → Prop} {K : KT} {av : AV} (e : sop P s.t s.h o = some av) (hk : K av s.h s.n) : AOp P C o s E K := by
 intro a w ι I next Q _ hn
 obtain ⟨v, h1, h2⟩ := sop_ok (P := P) (val_ok I) I.heap e
 unfold Oper.wp
 rw [h1, Oper.upon_value]
 exact hn v av s.h s.n ι w hk I h2
theorem Gives.laid {P : Program} {C : Ctx} {t : Nat → AV} {h : Heap} {n : Nat} {m : (Operand → Value) → Sem Value} {K : KT} (cs : List Cell) (val : AV)
  (hm : ∀ a w ι, Inv C ι ⟨t, h, n⟩ a w → ∃ (V : Array Value) (ty : TypeId) (v : Value), (m a.eval).run P w = .ok v (w.alloc (.cells V ty)) ∧ Reps ι h (C.b + n) w cs V.toList ∧
   RAV (ren ι (C.b + n) w.heap.size) (upd h (C.b + n) ⟨0, cs⟩) (C.b + (n + 1)) (w.alloc (.cells V ty)) val v)
  (hk : K val (upd h (C.b + n) ⟨0, cs⟩) (n + 1)) : Gives P C t h n m K := by
 intro a w ι I
 obtain ⟨V, ty, v, h1, h2, h3⟩ := hm a w ι I
 have hb : h (C.b + n) = none := I.bound _ (Nat.le_refl _)
 obtain ⟨_, I'⟩ := I.place (C.b + n) (n + 1) (Nat.le_succ _) (by omega) 0 (fun b e => by have e' : h (C.b + n) = some b := e; rw [hb] at e'; cases e') (fun _ => Nat.le_refl _) cs V ty (by simpa using h2.1)
  (fun j d u hd hu => h2.2 j d u hd (by simpa using hu))
 exact ⟨v, _, val, _, _, _, h1, hk, I', h3⟩
theorem rav_new_ptr {C : Ctx} {ι : Nat → Nat} {h : Heap} {n : Nat} {w' : World} {cs : List Cell} (g : Nat) :
  RAV (ren ι (C.b + n) g) (upd h (C.b + n) ⟨0, cs⟩) (C.b + (n + 1)) w' (.one (.ptr (C.b + n) 0 0)) (.pointer (some ⟨g, 0, none⟩)) := by
 refine .one (.ptr (by omega) (fun blk e => by rw [upd_same] at e; injection e with e; subst e; exact Nat.le_refl _) (fun blk e _ => ?_))
 rw [ren_same]
theorem rav_new_win {C : Ctx} {ι : Nat → Nat} {h : Heap} {n : Nat} {w' : World} {cs : List Cell} (g len cap : Nat) (hl : len ≤ cap) :
  RAV (ren ι (C.b + n) g) (upd h (C.b + n) ⟨0, cs⟩) (C.b + (n + 1)) w' (.one (.win (C.b + n) 0 0 len cap)) (.slice (some ⟨g, 0, none⟩) len cap) := by
 refine .one (.win (by omega) (fun blk e => by rw [upd_same] at e; injection e with e; subst e; exact Nat.le_refl _) (fun blk e _ => ⟨hl, .inl ?_⟩))
 rw [ren_same]
def okA (h : Heap) : AV → Bool
 | .one c => okC h c
 | .agg _ => true
 | .tup _ => false
theorem reps_okA {ι : Nat → Nat} {h : Heap} {bd : Nat} {w : World} {x : AV} {X : Value} (r : RAV ι h bd w x X) (ok : okA h x = true) : Reps ι h bd w (cellsA x) X.cells.toList :=
 reps_cells r (fun c e => by subst e; exact ok) (fun vs e => by subst e; cases ok)
theorem box_ok {P : Program} {C : Ctx} {t : Nat → AV} {h : Heap} {n : Nat} {K : KT} {ty : TypeId} {x : Operand} (ok : okA h (val t x) = true)
  (hk : K (.one (.ptr (C.b + n) 0 0)) (upd h (C.b + n) ⟨0, cellsA (val t x)⟩) (n + 1)) : Gives P C t h n (fun ρ => Instr.box ty (ρ x)) K := by
 refine .laid _ _ (fun a w ι I => ?_) hk
 have r := val_ok I x
 exact ⟨(a.eval x).cells, ty, .pointer (some ⟨w.heap.size, 0, none⟩), rfl, reps_okA r ok, rav_new_ptr w.heap.size⟩
theorem alloc_ok {P : Program} {C : Ctx} {t : Nat → AV} {h : Heap} {n : Nat} {K : KT} {ty : TypeId} {zs : List Value} (hz : tzero P ty = some zs)
  (hk : K (.one (.ptr (C.b + n) 0 0)) (upd h (C.b + n) ⟨0, zs.map fun v => .p (.v v)⟩) (n + 1)) : Gives P C t h n (fun _ => Instr.alloc ty true (.tuple #[])) K := by
 refine .laid _ _ (fun a w ι I => ?_) hk
 obtain ⟨i, z, hi, hiz, hzs⟩ := tzero_run hz
 refine ⟨z.cells, ty, .pointer (some ⟨w.heap.size, 0, none⟩), ?_, by rw [hzs]; exact reps_vs zs, rav_new_ptr w.heap.size⟩
 have : (zeroValue ty).run P w = .ok z w := by simp [zeroValue, typeInfo, hi, hiz]
 simp only [Instr.alloc, Sem.run_bind, this, Result.andThen, newVar, newRow, run_newObj, Sem.run_pure]
 rfl
def repl {α : Type} (zs : List α) : Nat → List α
 | 0 => []
 | n + 1 => zs ++ repl zs n
theorem repl_length {α : Type} (zs : List α) (n : Nat) : (repl zs n).length = n * zs.length := by
 induction n with
 | zero => simp [repl]
 | succ n ih => simp [repl, ih, Nat.add_mul]; omega
theorem repl_get {α : Type} (zs : List α) : ∀ (n i : Nat), i < n * zs.length → (repl zs n)[i]? = zs[i % zs.length]?
 | 0, i, h => by simp at h
 | n + 1, i, h => by
   have hz : 0 < zs.length := by
    rcases Nat.eq_zero_or_pos zs.length with h0 | h0
    ·rw [h0] at h; simp at h
    ·exact h0
   simp only [repl, List.getElem?_append]
   by_cases hi : i < zs.length
   ·rw [if_pos hi, Nat.mod_eq_of_lt hi]
   ·rw [if_neg hi, repl_get zs n (i - zs.length) (by rw [Nat.add_mul] at h; omega)]
    congr 1
    exact (Nat.mod_eq_sub_mod (by omega)).symm
theorem repl_map {α β : Type} (f : α → β) (zs : List α) (n : Nat) : repl (zs.map f) n = (repl zs n).map f := by
 induction n with
 | zero => rfl
 | succ n ih => simp [repl, ih]
theorem range_repl (zs : List Value) (n sz : Nat) (hs : zs.length = sz) : ((Array.range (n * sz)).map (zs.toArray[· % zs.toArray.size]!)) = (repl zs n).toArray := by
 apply Array.ext'
 apply List.ext_getElem?
 intro i
 by_cases hi : i < n * sz
 ·have hz : 0 < sz := by
   rcases Nat.eq_zero_or_pos sz with h0 | h0
   ·rw [h0] at hi; simp at hi
   ·exact h0
  have hm : i % zs.length < zs.length := Nat.mod_lt _ (by omega)
  rw [repl_get zs n i (by rw [hs]; exact hi)]
  simp [hi, hm]
 ·have e1 : (repl zs n)[i]? = none := List.getElem?_eq_none (by rw [repl_length, hs]; omega)
  rw [e1]
  simp [hi]
def bslA (P : Program) (h : Heap) (ty : TypeId) (len : Nat) (parts : List (Nat × AV)) : Option (List Cell) :=
 match slE P ty with
 | some e => match tsz P e, tzero P e with
   | some z, some zs => if zs.length = z ∧ (0 < len * z ∨ len = 0) ∧ len * z ≤ 16777216 then fillA h (fun i => some (i * z, z)) (repl (zs.map fun v => .p (.v v)) len) parts else none
   | _, _ => none
 | none => none
theorem reps_repl {ι : Nat → Nat} {h : Heap} {bd : Nat} {w : World} (zs : List Value) (n : Nat) : Reps ι h bd w (repl (zs.map fun v => Cell.p (.v v)) n) (repl zs n) := by
 rw [repl_map]
 exact reps_vs _
theorem parts_ok {ι : Nat → Nat} {h : Heap} {bd : Nat} {w : World} {t : Nat → AV} {ρ : Operand → Value} (rel : ∀ x, RAV ι h bd w (val t x) (ρ x)) (parts : Array (Nat × Operand)) :
  ∀ (k i : Nat) (x : AV), (parts.toList.map fun (i, x) => (i, val t x))[k]? = some (i, x) → ∃ X, ((parts.map fun (i, x) => (i, ρ x)).toList)[k]? = some (i, X) ∧ RAV ι h bd w x X := by
 intro k i x hk
 rw [List.getElem?_map] at hk
 cases hq : parts.toList[k]? with
 | none => rw [hq] at hk; simp at hk
 | some q =>
   obtain ⟨j, y⟩ := q
   rw [hq] at hk
   simp at hk
   obtain ⟨rfl, rfl⟩ := hk
   exact ⟨ρ y, by rw [Array.toList_map, List.getElem?_map, hq]; rfl, rel y⟩
theorem bsl_ok {P : Program} {C : Ctx} {t : Nat → AV} {h : Heap} {n : Nat} {K : KT} {ty : TypeId} {len : Nat} {parts : Array (Nat × Operand)} {cs : List Cell}
  (e : bslA P h ty len (parts.toList.map fun (i, x) => (i, val t x)) = some cs)
  (hk : K (.one (.win (C.b + n) 0 0 len len)) (upd h (C.b + n) ⟨0, cs⟩) (n + 1)) : Gives P C t h n (fun ρ => Instr.buildSlice ty len (parts.map fun (i, x) => (i, ρ x))) K := by
 refine .laid _ _ (fun a w ι I => ?_) hk
 unfold bslA at e
 split at e
 ·rename_i el hel
  split at e
  ·rename_i z zs hsz hz
   split at e
   ·rename_i hc
    obtain ⟨hzl, h0, hle⟩ := hc
    obtain ⟨i, zv, hi, hiz, hzs⟩ := tzero_run hz
    obtain ⟨V', h1, h2⟩ := fill_ok _ ((parts.map fun (i, x) => (i, a.eval x)).toList) (by simp) (parts_ok (val_ok I) parts) _ (repl zs len).toArray (by simpa using reps_repl zs len) cs e
    refine ⟨V', el, .slice (some ⟨w.heap.size, 0, none⟩) len len, ?_, h2, rav_new_win w.heap.size len len (Nat.le_refl _)⟩
    rcases h0 with h0 | rfl
    case inr =>
     have h1' : Instr.fill (fun i => some (i * z, z)) #[] (parts.map fun (i, x) => (i, a.eval x)).toList = some V' := h1
     simp only [Instr.buildSlice, Sem.run_bind, run_underlying (slE_run hel), tsz_run hsz, Result.andThen]
     rw [if_neg (by omega), if_pos (by omega)]
     simp only [Sem.run_bind, Result.andThen, Sem.run_pure, Nat.zero_mul, Array.range_zero', Array.map_empty]
     rw [h1']
     rfl
    have hzr : (zeroValue el).run P w = .ok zv w := by simp [zeroValue, typeInfo, hi, hiz]
    have hzc : zv.cells = zs.toArray := by apply Array.ext'; simpa using hzs
    have hr := range_repl zs len z hzl
    simp only [Instr.buildSlice, Sem.run_bind, run_underlying (slE_run hel), tsz_run hsz, Result.andThen]
    rw [if_neg (by omega), if_neg (by omega)]
    simp only [Sem.run_bind, hzr, Result.andThen, Sem.run_pure, hzc]
    rw [hr, h1]
    rfl
   ·cases e
  ·cases e
 ·cases e
def stA (P : Program) (ty : TypeId) (h : Heap) (x v : AV) : Option Heap :=
 match x with
 | .one (.ptr id ver off) => match h id with
   | some b => match v with
     | .agg [] => if b.ver = ver ∧ tsz P ty = some 0 then some h else none
     | v => if b.ver = ver ∧ okA h v = true ∧ (cellsA v).all (okC h) = true ∧ tsz P ty = some (cellsA v).length ∧ off + (cellsA v).length ≤ b.cells.length ∧ 0 < (cellsA v).length then some (upd h id ⟨ver, spl b.cells off (cellsA v)⟩) else none
   | none => none
 | _ => none
theorem st_ok {P : Program} {C : Ctx} {o : Oper} {t : Nat → AV} {h : Heap} {n : Nat} {E : Exit → St → Prop} {K : KT} {ty : TypeId} {x v : Operand} (ho : o.op = .store ty x v) {h' : Heap}
  (e : stA P ty h (val t x) (val t v) = some h') (hk : K (.one .junk) h' n) : AOp P C o ⟨t, h, n⟩ E K := by
 intro a w ι I next Q _ hn
 have rx := val_ok I x
 have rv := val_ok I v
 unfold stA at e
 split at e
 ·rename_i id ver off hx
  have rx : RAV ι h (C.b + n) w (val t x) (a.eval x) := rx
  rw [hx] at rx
  split at e
  ·rename_i b hb
   split at e
   ·rename_i hv0
    split at e
    ·rename_i hc
     obtain ⟨hver, hsz⟩ := hc
     injection e with e
     subst e
     have hX := ptr_inv rx hb hver
     have rv : RAV ι h (C.b + n) w (val t v) (a.eval v) := rv
     rw [hv0] at rv
     have hV : a.eval v = .agg #[] := by
      revert rv
      generalize a.eval v = V
      intro rv
      cases rv with
      | agg V hl _ => obtain rfl : V = [] := List.eq_nil_of_length_eq_zero hl; rfl
     unfold Oper.wp execOp
     simp only [ho]
     have hrun : (Instr.storeAt ty (a.eval x) (a.eval v)).run P w = .ok () w := by
      rw [hX, hV]
      simp only [Instr.storeAt, Instr.sureAddr, Sem.run_bind, Sem.run_pure, Result.andThen, storeVar, tsz_run hsz]
      rfl
     simp only [Sem.run_bind, hrun, Result.andThen, Sem.run_pure, Oper.upon_skip]
     exact hn undef (.one .junk) _ n ι _ hk I (.one (.junk _))
    ·cases e
   split at e
   ·rename_i hc
    obtain ⟨hver, hok, hall, hsz, hle, hpos⟩ := hc
    injection e with e
    subst e
    have hX := ptr_inv rx hb hver
    have hne : b.cells ≠ [] := by intro hh; rw [hh] at hle; simp only [List.length_nil] at hle; omega
    obtain ⟨c, ty', g1, g2, g3⟩ := I.heap.blk id b hb hne
    have q : Reps ι h (C.b + n) w (cellsA (val t v)) (a.eval v).cells.toList := reps_okA rv hok
    have ql := q.1
    have r0 : Reps ι h (C.b + n) w b.cells c.toList := ⟨by simpa using g2, fun j d u hd hu => g3 j d u hd (by simpa using hu)⟩
    have r1 := Reps.spl r0 q hle
    have hone : ∀ u ∈ (a.eval v).cells.toList, u.oneCell' = true := by
     intro u hu
     obtain ⟨j, hj⟩ := List.mem_iff_getElem?.1 hu
     have hlt : j < (cellsA (val t v)).length := by rw [← ql]; exact (List.getElem?_eq_some_iff.1 hj).1
     have hd : (cellsA (val t v))[j]? = some (cellsA (val t v))[j] := List.getElem?_eq_getElem hlt
     exact (okC_run (q.2 j _ u hd hj) (List.all_eq_true.1 hall _ (List.getElem_mem hlt))).1
    have hst := run_storeCells_at (P := P) (ι id) off ty' (a.eval v).cells.toList 0 c w g1 (by simp at ql ⊢; omega) hone
    obtain ⟨_, I'⟩ := I.write id b hb hne ver (Nat.le_of_eq hver) (spl b.cells off (cellsA (val t v))) (c.toList.take off ++ ((a.eval v).cells.toList ++ c.toList.drop (off + (a.eval v).cells.toList.length))).toArray
     (by have := r1.1; simp [spl]; omega) (by have := r1.1; simpa using this) (fun j d u hd hu => r1.2 j d u hd (by simpa using hu))
    unfold Oper.wp execOp
    simp only [ho]
    have hrun : (Instr.storeAt ty (a.eval x) (a.eval v)).run P w = .ok () (w.setRow (ι id) (c.toList.take off ++ ((a.eval v).cells.toList ++ c.toList.drop (off + (a.eval v).cells.toList.length))).toArray) := by
     rw [hX]
     simp only [Instr.storeAt, Instr.sureAddr, Sem.run_bind, Sem.run_pure, Result.andThen, storeVar, tsz_run hsz]
     rw [if_neg (by simp at ql ⊢; omega), hst]
     simp
    simp only [Sem.run_bind, hrun, Result.andThen, Sem.run_pure, Oper.upon_skip]
    exact hn undef (.one .junk) _ n ι _ hk I' (.one (.junk _))
   ·cases e
  ·cases e
 ·cases e
def bodyB (P : Program) (g : FuncId) : Bool :=
 match P.funcs[g]? with
 | some fn => fn.body.isSome && fn.name != "runtime.NumGoroutine"
 | none => false
theorem callFunc_run {P : Program} {g : FuncId} (e : bodyB P g = true) (args : Array Value) (w : World) : (callFunc g args).run P w = .ok (.enter g args) w := by
 unfold bodyB at e
 split at e
 ·rename_i fn hf
  simp only [Bool.and_eq_true, bne_iff_ne, ne_eq] at e
  have hb : fn.body.isNone = false := by cases h : fn.body <;> simp_all
  have hn : (fn.name == "runtime.NumGoroutine") = false := by simpa using e.2
  simp only [callFunc, Sem.run_bind, run_program, Result.andThen, hf, hn, hb]
  rfl
 ·cases e
def junkT : Nat → AV := fun _ => .one .junk
theorem Inv.junk {C : Ctx} {ι : Nat → Nat} {t : Nat → AV} {h : Heap} {n : Nat} {a : Act} {w : World} (I : Inv C ι ⟨t, h, n⟩ a w) : Inv C ι ⟨junkT, h, n⟩ a w :=
 ⟨I.outer, I.fresh, I.bound, I.heap, fun _ => .one (.junk _), I.ntmps, I.defers, I.keeps⟩
theorem Inv.unjunk {C : Ctx} {ι ι' : Nat → Nat} {t t' : Nat → AV} {h h' : Heap} {n n' : Nat} {a : Act} {w w' : World} (I : Inv C ι ⟨t, h, n⟩ a w) (I' : Inv C ι' ⟨t', h', n'⟩ a w') (M : Moves ι h (C.b + n) w ι' h' (C.b + n') w') : Inv C ι' ⟨t, h', n'⟩ a w' :=
 ⟨I'.outer, I'.fresh, I'.bound, I'.heap, fun i => (I.tmps i).move M, I'.ntmps, I'.defers, I'.keeps⟩
def ExtK (P : Program) (C : Ctx) (g : FuncId) (args : List AV) (h : Heap) (n : Nat) (K : KT) : Prop :=
 ∀ a w ι Vs, Inv C ι ⟨junkT, h, n⟩ a w → RAVs ι h (C.b + n) w args Vs → ∃ v w' av h' n' ι', (callFunc g Vs.toArray).run P w = .ok (.value v) w' ∧ K av h' n' ∧ Inv C ι' ⟨junkT, h', n'⟩ a w' ∧ RAV ι' h' (C.b + n') w' av v ∧
   Moves ι h (C.b + n) w ι' h' (C.b + n') w'
def PCalls (P : Program) (f : FuncId) (args : List AV) (h : Heap) (b m : Nat) (R : AV → Heap → Prop) (X : List PanicEntry → Heap → Prop) : Prop :=
 ∀ ι w vs, (∀ id, b ≤ id → h id = none) → HeapOK ι h b w → RAVs ι h b w args vs →
   Calls P f vs.toArray w fun e w' => (∃ v r h' ι', e = .returned v ∧ R r h' ∧ Post ι h b w m ι' h' w' ∧ RAV ι' h' (b + m) w' r v) ∨ (∃ ch h' ι', e = .panicked ch ∧ X ch h' ∧ Post ι h b w m ι' h' w')
def CallK (P : Program) (C : Ctx) (E : Exit → St → Prop) (t : Nat → AV) (g : FuncId) (args : List AV) (h : Heap) (n : Nat) (K : KT) : Prop :=
 (∃ (m : Nat) (R : AV → Heap → Prop), bodyB P g = true ∧ ACalls P g args h (C.b + n) m R ∧ ∀ r h', R r h' → K r h' (n + m)) ∨ ExtK P C g args h n K ∨
 (∃ (m : Nat) (R : AV → Heap → Prop) (X : List PanicEntry → Heap → Prop), bodyB P g = true ∧ PCalls P g args h (C.b + n) m R X ∧ (∀ r h', R r h' → K r h' (n + m)) ∧ ∀ ch h', X ch h' → E (.panic ch) ⟨t, h', n + m⟩)
theorem Post.inv {C : Ctx} {ι ι' : Nat → Nat} {s : St} {a : Act} {w w' : World} {m : Nat} {h' : Heap} (I : Inv C ι s a w) (p : Post ι s.h (C.b + s.n) w m ι' h' w') : Inv C ι' ⟨s.t, h', s.n + m⟩ a w' := by
 have M : Moves ι s.h (C.b + s.n) w ι' h' (C.b + (s.n + m)) w' := by
  refine ⟨by omega, fun b hs hb id blk e ne => ?_, p.keeps.old, fun id hid b' e => ?_⟩
  ·rcases Nat.lt_or_ge id (C.b + s.n) with hlt | hge
   ·obtain ⟨b0, h0, h1, h2⟩ := p.outer id hlt blk e
    rcases h2 with ⟨h2, h3⟩ | ⟨_, h3⟩
    ·rw [h3]
     exact hs id b0 h0 (len_nil h2 ne)
    ·have := h3 ne; omega
   ·have := p.fresh id hge blk e ne
    omega
  ·obtain ⟨b0, h0, h1⟩ := p.outer id hid b' e
   exact ⟨b0, h0, h1.1, fun h => h1.place h⟩
 refine ⟨fun id hid b' e => ?_, fun id hid b' e ne => ?_, fun id hid => p.bound id (by simp only at hid; omega), ?_, fun t => (I.tmps t).move M, I.ntmps, I.defers, ?_⟩
 ·obtain ⟨b0, h0, h1⟩ := p.outer id (by omega) b' e
  obtain ⟨b1, k0, k1⟩ := I.outer id hid b0 h0
  exact ⟨b1, k0, k1.trans h1 I.keeps.size⟩
 ·rcases Nat.lt_or_ge id (C.b + s.n) with hlt | hge
  ·obtain ⟨b0, h0, h1, h2⟩ := p.outer id hlt b' e
   rcases h2 with ⟨h2, h3⟩ | ⟨_, h3⟩
   ·rw [h3]
    exact I.fresh id hid b0 h0 (len_nil h2 ne)
   ·exact Nat.le_trans I.keeps.size (h3 ne)
  ·exact Nat.le_trans I.keeps.size (p.fresh id hge b' e ne)
 ·have := p.heap
  rw [Nat.add_assoc] at this
  exact this
 ·refine ⟨Nat.le_trans I.keeps.size p.keeps.size, p.keeps.os.trans I.keeps.os, p.keeps.output.trans I.keeps.output, fun b hs hb => ?_⟩
  have hlt : b < w.heap.size := Nat.lt_of_lt_of_le hb I.keeps.size
  rw [p.keeps.old b (fun id blk e ne => ?_) hlt, I.keeps.old b hs hb]
  rcases Nat.lt_or_ge id C.b with h1 | h1
  ·obtain ⟨b1, k0, k1, k2⟩ := I.outer id h1 blk e
   rcases k2 with ⟨k2, k3⟩ | ⟨_, k3⟩
   ·rw [k3]
    exact hs id b1 k0 (len_nil k2 ne)
   ·have := k3 ne; omega
  ·have := I.fresh id h1 blk e ne
   omega
theorem RAVs.app {ι : Nat → Nat} {h : Heap} {bd : Nat} {w : World} {as bs : List AV} {va vb : List Value} (ha : RAVs ι h bd w as va) (hb : RAVs ι h bd w bs vb) : RAVs ι h bd w (as ++ bs) (va ++ vb) := by
 refine ⟨by simp [ha.1, hb.1], fun i c u hc hu => ?_⟩
 rw [List.getElem?_append] at hc hu
 rw [ha.1] at hu
 split at hc
 ·rename_i hi; rw [if_pos hi] at hu; exact ha.2 i c u hc hu
 ·rename_i hi; rw [if_neg hi] at hu; exact hb.2 _ c u hc hu
theorem ravs_map {ι : Nat → Nat} {h : Heap} {bd : Nat} {w : World} {t : Nat → AV} {ρ : Operand → Value} (rel : ∀ x, RAV ι h bd w (val t x) (ρ x)) (xs : List Operand) : RAVs ι h bd w (xs.map (val t)) (xs.map ρ) := by
 refine ⟨by simp, fun i c u hc hu => ?_⟩
 rw [List.getElem?_map] at hc hu
 cases hx : xs[i]? with
 | none => rw [hx] at hc; simp at hc
 | some x => rw [hx] at hc hu; simp at hc hu; subst hc; subst hu; exact rel x
theorem ravs_cells {ι : Nat → Nat} {h : Heap} {bd : Nat} {w : World} {cs : List Cell} {V : List Value} (hl : V.length = cs.length) (hv : ∀ (i : Nat) (c : Cell) (u : Value), cs[i]? = some c → V[i]? = some u → RCell ι h bd w c u) :
  RAVs ι h bd w (cs.map .one) V := by
 refine ⟨by simp [hl], fun i c u hc hu => ?_⟩
 rw [List.getElem?_map] at hc
 cases hx : cs[i]? with
 | none => rw [hx] at hc; simp at hc
 | some x => rw [hx] at hc; simp at hc; subst hc; exact .one (hv i x u hx hu)
theorem call_ok {P : Program} {C : Ctx} {o : Oper} {t : Nat → AV} {h : Heap} {n : Nat} {E : Exit → St → Prop} {K : KT} {f : Operand} {xs : Array Operand} {tys : Array TypeId} (ho : o.op = .call ⟨.value f, xs, tys⟩)
  {g : FuncId} {first cap : List Cell} (hf : val t f = .one (.clo (.func g) first cap)) (k : CallK P C E t g (first.map .one ++ xs.toList.map (val t) ++ cap.map .one) h n K) : AOp P C o ⟨t, h, n⟩ E K := by
 intro a w ι I next Q hQ hn
 have rf := val_ok I f
 have rf : RAV ι h (C.b + n) w (val t f) (a.eval f) := rf
 rw [hf] at rf
 have hF : ∃ F D : List Value, a.eval f = .func (.func g) F.toArray D.toArray ∧ RAVs ι h (C.b + n) w (first.map .one) F ∧ RAVs ι h (C.b + n) w (cap.map .one) D := by
  revert rf
  generalize a.eval f = X
  intro rf
  cases rf with
  | one hc => cases hc with | clo F D hF hD h1 h2 => exact ⟨F, D, rfl, ravs_cells hF h1, ravs_cells hD h2⟩
 obtain ⟨F, D, hX, r1, r3⟩ := hF
 have r2 := ravs_map (val_ok I) xs.toList
 rcases k with ⟨m, R, hb, hc, hk⟩ | k | ⟨m, R, X, hb, hc, hk, hx⟩
 case inr.inl =>
  obtain ⟨v, w', av, h', n', ι', h1, h2, h3, h4, h5⟩ := k a w ι _ I.junk (RAVs.app (RAVs.app r1 r2) r3)
  unfold Oper.wp execOp
  have hrun : (do let d ← resolve a.eval ⟨.value f, xs, tys⟩ o.type; invoke d.target d.args : Sem Next).run P w = .ok (.value v) w' := by
   simp only [resolve, Deferred.ofValue, hX, Sem.run_bind, Sem.run_pure, Result.andThen, invoke]
   rw [← h1]
   congr 2
   apply Array.ext'
   simp
  simp only [ho, hrun, Oper.upon_value]
  exact hn v av h' n' ι' w' h2 (I.unjunk h3 h5) h4
 have hrun : (do let d ← resolve a.eval ⟨.value f, xs, tys⟩ o.type; invoke d.target d.args : Sem Next).run P w = .ok (.enter g (F ++ xs.toList.map a.eval ++ D).toArray) w := by
  simp only [resolve, Deferred.ofValue, hX, Sem.run_bind, Sem.run_pure, Result.andThen, invoke, callFunc_run hb]
  congr 2
  apply Array.ext'
  simp
 ·unfold Oper.wp execOp
  simp only [ho, hrun, Oper.upon_enter]
  refine (hc ι w _ (fun id hid => I.bound id hid) I.heap (RAVs.app (RAVs.app r1 r2) r3)).mono ?_
  rintro e w' ⟨v, r, h', ι', rfl, hR, hp, hv⟩
  exact hn v r h' (n + m) ι' w' (hk r h' hR) (Post.inv I hp) (by rw [← Nat.add_assoc]; exact hv)
 unfold Oper.wp execOp
 have hrun : (do let d ← resolve a.eval ⟨.value f, xs, tys⟩ o.type; invoke d.target d.args : Sem Next).run P w = .ok (.enter g (F ++ xs.toList.map a.eval ++ D).toArray) w := by
  simp only [resolve, Deferred.ofValue, hX, Sem.run_bind, Sem.run_pure, Result.andThen, invoke, callFunc_run hb]
  congr 2
  apply Array.ext'
  simp
 simp only [ho, hrun, Oper.upon_enter]
 refine (hc ι w _ (fun id hid => I.bound id hid) I.heap (RAVs.app (RAVs.app r1 r2) r3)).mono ?_
 rintro e w' (⟨v, r, h', ι', rfl, hR, hp, hv⟩ | ⟨ch, h', ι', rfl, hX', hp⟩)
 ·exact hn v r h' (n + m) ι' w' (hk r h' hR) (Post.inv I hp) (by rw [← Nat.add_assoc]; exact hv)
 ·exact hQ _ _ ι' a w' (hx ch h' hX') (Post.inv I hp)
def BiK (P : Program) (C : Ctx) (b : Builtin) (tys : List TypeId) (args : List AV) (h : Heap) (n : Nat) (K : KT) : Prop :=
 ∀ a w ι Vs, Inv C ι ⟨junkT, h, n⟩ a w → RAVs ι h (C.b + n) w args Vs → ∀ ty cs, ∃ v w' av h' n' ι', (builtin b tys.toArray ty cs Vs.toArray).run P w = .ok (.value v) w' ∧ K av h' n' ∧ Inv C ι' ⟨junkT, h', n'⟩ a w' ∧ RAV ι' h' (C.b + n') w' av v ∧
   Moves ι h (C.b + n) w ι' h' (C.b + n') w'
def EqlK (P : Program) (C : Ctx) (op : BinOp) (ty : TypeId) (ox oy : Operand) (x y : AV) (h : Heap) (n : Nat) (K : KT) : Prop :=
 ∀ a w ι X Y, Inv C ι ⟨junkT, h, n⟩ a w → RAV ι h (C.b + n) w x X → RAV ι h (C.b + n) w y Y → ∃ v w' av h' n' ι', (do eqGuard op ty ox oy X Y; binOp op ty X Y : Sem Value).run P w = .ok v w' ∧ K av h' n' ∧
   Inv C ι' ⟨junkT, h', n'⟩ a w' ∧ RAV ι' h' (C.b + n') w' av v ∧ Moves ι h (C.b + n) w ι' h' (C.b + n') w'
def MkK (P : Program) (C : Ctx) (ty : TypeId) (x y : AV) (h : Heap) (n : Nat) (K : KT) : Prop :=
 ∀ a w ι X Y, Inv C ι ⟨junkT, h, n⟩ a w → RAV ι h (C.b + n) w x X → RAV ι h (C.b + n) w y Y → ∃ v w' av h' n' ι', (Instr.makeSlice ty X Y).run P w = .ok v w' ∧ K av h' n' ∧
   Inv C ι' ⟨junkT, h', n'⟩ a w' ∧ RAV ι' h' (C.b + n') w' av v ∧ Moves ι h (C.b + n) w ι' h' (C.b + n') w'
def splitB (v : AV) (K : AV → Prop) : Prop :=
 match v with
 | .one (.p (.v (.bool g))) => (g = true → K (.one (.p (.v (.bool true))))) ∧ (g = false → K (.one (.p (.v (.bool false)))))
 | v => K v
def optK (x : Option AV) (K : AV → Prop) : Prop :=
 match x with
 | some v => K v
 | none => False
def aop (P : Program) (C : Ctx) (o : Oper) (t : Nat → AV) (h : Heap) (n : Nat) (E : Exit → St → Prop) (K : KT) : Prop :=
 match o.op with
 | .move x => splitB (val t x) fun v => K v h n
 | .binOp op ty x y _ => match binA P h ty op (val t x) (val t y) with
   | some v => K v h n
   | none => EqlK P C op ty x y (val t x) (val t y) h n K
 | .box _ x => okA h (val t x) = true ∧ K (.one (.ptr (C.b + n) 0 0)) (upd h (C.b + n) ⟨0, cellsA (val t x)⟩) (n + 1)
 | .alloc ty => match tzero P ty with
   | some zs => K (.one (.ptr (C.b + n) 0 0)) (upd h (C.b + n) ⟨0, zs.map fun v => .p (.v v)⟩) (n + 1)
   | none => False
 | .buildSlice ty len parts => match bslA P h ty len (parts.toList.map fun (i, x) => (i, val t x)) with
   | some cs => K (.one (.win (C.b + n) 0 0 len len)) (upd h (C.b + n) ⟨0, cs⟩) (n + 1)
   | none => False
 | .store ty x v => match stA P ty h (val t x) (val t v) with
   | some h' => K (.one .junk) h' n
   | none => False
 | .makeSlice ty l c => MkK P C ty (val t l) (val t c) h n K
 | .call { callee := .value f, args := xs, argTypes := _ } => match val t f with
   | .one (.clo (.func g) first cap) => CallK P C E t g (first.map .one ++ (xs.toList.map (val t) ++ cap.map .one)) h n K
   | _ => False
 | .panic x => match val t x with
   | .one (.p (.v (.iface T v))) => E (.panic [{ v := .iface T v, recovered := false }]) ⟨t, h, n⟩
   | _ => False
 | .call { callee := .builtin .append, args := xs, argTypes := tys } => BiK P C .append tys.toList (xs.toList.map (val t)) h n K
 | .call { callee := .builtin .copy, args := xs, argTypes := tys } => BiK P C .copy tys.toList (xs.toList.map (val t)) h n K
 | .call { callee := .builtin .clear, args := xs, argTypes := tys } => BiK P C .clear tys.toList (xs.toList.map (val t)) h n K
 | _ => optK (sop P t h o) fun v => K v h n
theorem splitB_ok {v : AV} {K : AV → Prop} (e : splitB v K) : K v := by
 unfold splitB at e
 split at e
 ·rename_i g; cases g
  ·exact e.2 rfl
  ·exact e.1 rfl
 ·exact e
theorem optK_ok {x : Option AV} {K : AV → Prop} (e : optK x K) : ∃ v, x = some v ∧ K v := by
 cases x with
 | none => exact e.elim
 | some v => exact ⟨v, rfl, e⟩
theorem bi_ok {P : Program} {C : Ctx} {o : Oper} {t : Nat → AV} {h : Heap} {n : Nat} {E : Exit → St → Prop} {K : KT} {b : Builtin} {xs : Array Operand} {tys : Array TypeId} (ho : o.op = .call ⟨.builtin b, xs, tys⟩)
  (k : BiK P C b tys.toList (xs.toList.map (val t)) h n K) : AOp P C o ⟨t, h, n⟩ E K := by
 intro a w ι I next Q _ hn
 obtain ⟨v, w', av, h', n', ι', h1, h2, h3, h4, h5⟩ := k a w ι _ I.junk (ravs_map (val_ok I) xs.toList) o.type (constsOf xs)
 have hrun : (execOp a.eval o).run P w = .ok (.value v) w' := by
  obtain ⟨dst, op, ty, pos, after, guard⟩ := o
  simp only at ho
  subst ho
  rw [callee_builtin]
  have e2 : (List.map a.eval xs.toList).toArray = Array.map a.eval xs := by apply Array.ext'; simp
  rw [← e2]
  exact h1
 unfold Oper.wp
 rw [hrun, Oper.upon_value]
 exact hn v av h' n' ι' w' h2 (I.unjunk h3 h5) h4
section
variable (ρ : Operand → Value) (dst : Option Tmp) (ty0 : TypeId) (pos : String) (after : Array Edge) (guard : Option (Nat × Bool))
theorem ex_bin (op : BinOp) (ty u : TypeId) (x y : Operand) : execOp ρ ⟨dst, .binOp op ty x y u, ty0, pos, after, guard⟩ = (do pure (.value (← (do eqGuard op ty x y (ρ x) (ρ y); binOp op ty (ρ x) (ρ y) : Sem Value)))) := rfl
theorem ex_box (ty : TypeId) (x : Operand) : execOp ρ ⟨dst, .box ty x, ty0, pos, after, guard⟩ = (do pure (.value (← Instr.box ty (ρ x)))) := rfl
theorem ex_alloc (ty : TypeId) : execOp ρ ⟨dst, .alloc ty, ty0, pos, after, guard⟩ = (do pure (.value (← Instr.alloc ty true (.tuple #[])))) := rfl
theorem ex_bsl (ty : TypeId) (len : Nat) (parts : Array (Nat × Operand)) : execOp ρ ⟨dst, .buildSlice ty len parts, ty0, pos, after, guard⟩ = (do pure (.value (← Instr.buildSlice ty len (parts.map fun (i, x) => (i, ρ x))))) := rfl
theorem ex_mk (ty : TypeId) (l c : Operand) : execOp ρ ⟨dst, .makeSlice ty l c, ty0, pos, after, guard⟩ = (do pure (.value (← Instr.makeSlice ty (ρ l) (ρ c)))) := rfl
end
theorem aop_ok {P : Program} {C : Ctx} {o : Oper} {t : Nat → AV} {h : Heap} {n : Nat} {E : Exit → St → Prop} {K : KT} (e : aop P C o t h n E K) : AOp P C o ⟨t, h, n⟩ E K := by
 obtain ⟨dst, op, ty0, pos, after, guard⟩ := o
 unfold aop at e
 simp only at e
 split at e
 ·exact AOp.of_sop (K := K) rfl (splitB_ok (K := fun v => K v h n) e)
 ·rename_i op ty x y z
  split at e
  ·rename_i v hv
   exact AOp.of_sop (K := K) (av := v) hv e
  ·exact AOp.of_gives (K := K) (fun ρ => ex_bin ρ _ _ _ _ _ _ _ _ _ _) (fun a w ι I => let ⟨v, w', av, h', n', ι', h1, h2, h3, h4, h5⟩ := e a w ι _ _ I.junk (val_ok I x) (val_ok I y); ⟨v, w', av, h', n', ι', h1, h2, I.unjunk h3 h5, h4⟩)
 ·rename_i ty x
  exact AOp.of_gives (K := K) (fun ρ => ex_box ρ _ _ _ _ _ _ _) (box_ok (K := K) e.1 e.2)
 ·rename_i ty
  split at e
  ·rename_i zs hz
   exact AOp.of_gives (K := K) (fun ρ => ex_alloc ρ _ _ _ _ _ _) (alloc_ok (K := K) hz e)
  ·exact e.elim
 ·rename_i ty len parts
  split at e
  ·rename_i cs hc
   exact AOp.of_gives (K := K) (fun ρ => ex_bsl ρ _ _ _ _ _ _ _ _) (bsl_ok (K := K) hc e)
  ·exact e.elim
 ·rename_i ty x v
  split at e
  ·rename_i h' hs
   exact st_ok (K := K) rfl hs e
  ·exact e.elim
 ·rename_i ty l c
  exact AOp.of_gives (K := K) (fun ρ => ex_mk ρ _ _ _ _ _ _ _ _) (fun a w ι I => let ⟨v, w', av, h', n', ι', h1, h2, h3, h4, h5⟩ := e a w ι _ _ I.junk (val_ok I l) (val_ok I c); ⟨v, w', av, h', n', ι', h1, h2, I.unjunk h3 h5, h4⟩)
 ·rename_i f xs tys
  split at e
  ·rename_i g first cap hf
   exact call_ok (K := K) rfl hf (by rw [List.append_assoc]; exact e)
  ·exact e.elim
 ·rename_i x
  split at e
  ·rename_i T v hx
   intro a w ι I next Q hQ _
   have rx := val_ok I x
   have rx : RAV ι h (C.b + n) w (val t x) (a.eval x) := rx
   rw [hx] at rx
   have hX := rav_v_inv rx
   unfold Oper.wp
   have hrun : (execOp a.eval ⟨dst, .panic x, ty0, pos, after, guard⟩).run P w = .halt (.panic (.iface T v)) w := by
    simp only [execOp, hX]; rfl
   rw [hrun, Oper.upon_panic]
   exact hQ _ _ ι a w e I
  ·exact e.elim
 ·exact bi_ok (K := K) rfl e
 ·exact bi_ok (K := K) rfl e
 ·exact bi_ok (K := K) rfl e
 ·obtain ⟨v, h1, h2⟩ := optK_ok (K := fun v => K v h n) e
  exact AOp.of_sop (K := K) h1 h2
def dstsB (N : Nat) (l : List Oper) : Bool := l.all fun o => match o.dst with | some d => decide (d < N) | none => true
def undA : AV := .one (.p (.v (.tuple #[])))
def evOps (P : Program) (C : Ctx) (E : Exit → St → Prop) : List Oper → List (Option Tmp) → (Nat → AV) → Heap → Nat → ((Nat → AV) → Heap → Nat → Prop) → Prop
 | [], _, t, h, n, K => K t h n
 | o :: os, pre, t, h, n, K => match o.guard with
   | none => aop P C o t h n E fun v h' n' => evOps P C E os (pre ++ [o.dst]) (putT t o.dst v) h' n' K
   | some (j, want) => match pre[j]? with
     | some (some d) => match t d with
       | .one (.p (.v (.bool g))) => (g = want → aop P C o t h n E fun v h' n' => evOps P C E os (pre ++ [o.dst]) (putT t o.dst v) h' n' K) ∧
         (g = !want → evOps P C E os (pre ++ [o.dst]) (putT t o.dst undA) h n K)
       | .one (.p (.v (.tuple _))) => evOps P C E os (pre ++ [o.dst]) (putT t o.dst undA) h n K
       | _ => False
     | _ => False
def wpL (P : Program) (ops : Array Oper) (Q : Exit → Act → World → Prop) : List Oper → Act → World → Prop
 | [], a, w => Q .normal a w
 | o :: rest, a, w => if Region.wanted o (yielded ops a.tmps) then o.wp P a w (wpL P ops Q rest) Q else wpL P ops Q rest (a.put o.dst undef) w
theorem wpL_nil {P : Program} {ops : Array Oper} {Q : Exit → Act → World → Prop} {a : Act} {w : World} (h : Q .normal a w) : wpL P ops Q [] a w := h
theorem wpL_step {P : Program} {ops : Array Oper} {Q : Exit → Act → World → Prop} {a : Act} {w : World} {rest : List Oper} {o : Oper}
  (h : ∀ K : Act → World → Prop, (∀ a w, wpL P ops Q rest a w → K a w) → if Region.wanted o (yielded ops a.tmps) then o.wp P a w K Q else K (a.put o.dst undef) w) : wpL P ops Q (o :: rest) a w := h _ (fun _ _ h => h)
theorem wpL_plain {P : Program} {ops : Array Oper} {Q : Exit → Act → World → Prop} {a : Act} {w : World} {rest : List Oper} {o : Oper} (hg : o.guard = none)
  (h : ∀ K : Act → World → Prop, (∀ a w, wpL P ops Q rest a w → K a w) → o.wp P a w K Q) : wpL P ops Q (o :: rest) a w :=
 wpL_step fun K hK => by simp only [Region.wanted, hg, if_true]; exact h K hK
theorem evOps_ok {P : Program} {C : Ctx} {E : Exit → St → Prop} {ops : Array Oper} {Q : Exit → Act → World → Prop} (hQ : ∀ e s' ι' a' w', E e s' → Inv C ι' s' a' w' → Q e a' w')
  (hN : dstsB C.N ops.toList = true) (K : (Nat → AV) → Heap → Nat → Prop) (hK : ∀ t h n ι a w, K t h n → Inv C ι ⟨t, h, n⟩ a w → Q .normal a w) :
  ∀ (l : List Oper) (pre : List (Option Tmp)) (t : Nat → AV) (h : Heap) (n : Nat), l = ops.toList.drop pre.length → pre = (ops.toList.take pre.length).map (·.dst) → evOps P C E l pre t h n K →
    ∀ a w ι, Inv C ι ⟨t, h, n⟩ a w → wpL P ops Q l a w := by
 intro l
 induction l with
 | nil =>
   intro pre t h n _ _ e a w ι I
   exact wpL_nil (hK t h n ι a w e I)
 | cons o os ih =>
   intro pre t h n hl hpre e a w ι I
   have hk : ops.toList[pre.length]? = some o := by
    have : (ops.toList.drop pre.length)[0]? = some o := by rw [← hl]; rfl
    simpa using this
   have hmem : o ∈ ops.toList := List.mem_of_getElem? hk
   have hd : dstOK C.N o.dst := by
    have := List.all_eq_true.1 hN o hmem
    unfold dstOK
    cases hdd : o.dst with
    | none => trivial
    | some d => rw [hdd] at this; simpa using this
   have hl' : os = ops.toList.drop (pre ++ [o.dst]).length := by
    have : (ops.toList.drop pre.length).drop 1 = os := by rw [← hl]; rfl
    rw [← this]; simp
   have hpre' : pre ++ [o.dst] = (ops.toList.take (pre ++ [o.dst]).length).map (·.dst) := by
    have hlt : pre.length < ops.toList.length := (List.getElem?_eq_some_iff.1 hk).1
    have h1 : ops.toList.take (pre.length + 1) = ops.toList.take pre.length ++ [o] := by
     rw [List.take_add_one, hk]; rfl
    rw [List.length_append, List.length_singleton, h1, List.map_append, ← hpre]
    rfl
   have go : aop P C o t h n E (fun v h' n' => evOps P C E os (pre ++ [o.dst]) (putT t o.dst v) h' n' K) → ∀ K' : Act → World → Prop, (∀ a w, wpL P ops Q os a w → K' a w) → o.wp P a w K' Q := by
    intro e' K' hK'
    refine aop_ok e' a w ι I K' Q hQ (fun v av h' n' ι' w' hk' I' hv => hK' _ _ ?_)
    exact ih (pre ++ [o.dst]) _ h' n' hl' hpre' hk' _ _ ι' (I'.put hd hv)
   unfold evOps at e
   split at e
   ·rename_i hg
    exact wpL_plain hg (go e)
   ·rename_i j want hg
    split at e
    ·rename_i d hj
     split at e
     ·rename_i g ht
      have hjl : j < pre.length := (List.getElem?_eq_some_iff.1 hj).1
      have hops : (ops[j]?).bind (·.dst) = some d := by
       rw [hpre] at hj
       simp only [List.getElem?_map, List.getElem?_take] at hj
       rw [if_pos hjl] at hj
       have h2 : ops.toList[j]? = ops[j]? := by simp
       rw [h2] at hj
       cases hh : ops[j]? with
       | none => rw [hh] at hj; simp at hj
       | some oj => rw [hh] at hj; simpa using hj
      have hd2 : d < C.N := by
       cases hh : ops[j]? with
       | none => rw [hh] at hops; simp at hops
       | some oj =>
         rw [hh] at hops
         have hm : oj ∈ ops.toList := List.mem_of_getElem? (i := j) (by simpa using hh)
         have := List.all_eq_true.1 hN oj hm
         simp only [Option.bind_some] at hops
         rw [hops] at this
         simpa using this
      have hy : yielded ops a.tmps j = some g := by
       have hr := I.tmps d
       simp only [ht] at hr
       have hv := rav_v_inv hr
       have hlt : d < a.tmps.size := by rw [I.ntmps]; exact hd2
       have : a.tmps[d]? = some (.bool g) := by
        have h2 : a.tmps.getD d undef = a.tmps[d] := by simp [Array.getD, hlt]
        rw [Array.getElem?_eq_getElem hlt, ← h2]
        exact congrArg some hv
       unfold yielded
       rw [hops]
       simp only [Option.bind_some, this]
      refine wpL_step (fun K' hK' => ?_)
      have hw : Region.wanted o (yielded ops a.tmps) = (g == want) := by
       unfold Region.wanted
       rw [hg]
       show (yielded ops a.tmps j == some want) = (g == want)
       rw [hy]
       cases g <;> cases want <;> rfl
      rw [hw]
      by_cases hgw : g = want
      ·rw [if_pos (by simpa using hgw)]
       exact go (e.1 hgw) K' hK'
      ·rw [if_neg (by simpa using hgw)]
       refine hK' _ _ (ih (pre ++ [o.dst]) _ h n hl' hpre' (e.2 (by cases g <;> cases want <;> first | rfl | exact absurd rfl hgw)) _ _ ι (Inv.put I hd (rav_v undef)))
     ·rename_i xs ht
      have hjl : j < pre.length := (List.getElem?_eq_some_iff.1 hj).1
      have hops : (ops[j]?).bind (·.dst) = some d := by
       rw [hpre] at hj
       simp only [List.getElem?_map, List.getElem?_take] at hj
       rw [if_pos hjl] at hj
       have h2 : ops.toList[j]? = ops[j]? := by simp
       rw [h2] at hj
       cases hh : ops[j]? with
       | none => rw [hh] at hj; simp at hj
       | some oj => rw [hh] at hj; simpa using hj
      have hd2 : d < C.N := by
       cases hh : ops[j]? with
       | none => rw [hh] at hops; simp at hops
       | some oj =>
         rw [hh] at hops
         have hm : oj ∈ ops.toList := List.mem_of_getElem? (i := j) (by simpa using hh)
         have := List.all_eq_true.1 hN oj hm
         simp only [Option.bind_some] at hops
         rw [hops] at this
         simpa using this
      have hy : yielded ops a.tmps j = none := by
       have hr := I.tmps d
       simp only [ht] at hr
       have hv := rav_v_inv hr
       have hlt : d < a.tmps.size := by rw [I.ntmps]; exact hd2
       have : a.tmps[d]? = some (.tuple xs) := by
        have h2 : a.tmps.getD d undef = a.tmps[d] := by simp [Array.getD, hlt]
        rw [Array.getElem?_eq_getElem hlt, ← h2]
        exact congrArg some hv
       unfold yielded
       rw [hops]
       simp only [Option.bind_some, this]
      refine wpL_step (fun K' hK' => ?_)
      have hw : Region.wanted o (yielded ops a.tmps) = false := by
       unfold Region.wanted
       rw [hg]
       show (yielded ops a.tmps j == some want) = false
       rw [hy]
       rfl
      rw [hw, if_neg (by simp)]
      exact hK' _ _ (ih (pre ++ [o.dst]) _ h n hl' hpre' e _ _ ι (Inv.put I hd (rav_v undef)))
     ·exact e.elim
    ·exact e.elim
def plainB (l : List Oper) : Bool := l.all fun o => match o.op with | .defer _ => false | _ => true
def regB (N : Nat) (l : List Oper) : Bool := dstsB N l && plainB l
theorem Oper.wp_in {P : Program} {C : Ctx} {o : Oper} {a : Act} {w : World} {next next' : Act → World → Prop} {Q : Exit → Act → World → Prop} (hp : ∀ c, o.op ≠ .defer c) (hn : ∀ a w, next a w → next' a w) (h : o.wp P a w next Q) : o.wpIn C.F 0 P a w next' Q := by
 refine ⟨fun f _ => C.F_fn f, ?_⟩
 rw [Oper.semAt_eq _ _ _ hp]
 unfold Oper.wp at h
 revert h
 cases hr : (execOp a.eval o).run P w with
 | ok x w' =>
   intro h
   cases x with
   | value v => exact hn _ _ h
   | skip => exact hn _ _ h
   | defer d => exact hn _ _ h
   | enter f args =>
     refine ⟨fun hh => (by cases hh), ?_⟩
     have h1 : CallsIn Fence.wide 0 P f args w' _ := callsIn_wide.2 h
     have h2 : CallsIn C.F 0 P f args w' _ := h1
     exact h2.mono fun e w'' q => by cases e <;> first | exact hn _ _ q | exact q
   | row r args =>
     refine ⟨fun hh => (by cases hh), fun c cs _ => ?_⟩
     obtain ⟨v, w'', q, st⟩ := h c cs
     exact ⟨v, w'', hn _ _ q, (StepsIn.of_steps st).mono fun m _ => fenced_wide P m⟩
   | _ => exact h.elim
 | halt x w' =>
   intro h
   cases x <;> first | exact h | exact h.elim
theorem wpL_in {P : Program} {C : Ctx} {ops : Array Oper} {Q : Exit → Act → World → Prop} : ∀ (l : List Oper) (a : Act) (w : World), plainB l = true → wpL P ops Q l a w → wpListIn C.F 0 P ops Q l a w
 | [], _, _, _, h => h
 | o :: os, a, w, hp, h => by
   simp only [plainB, List.all_cons, Bool.and_eq_true] at hp
   unfold wpL at h
   unfold wpListIn
   split
   ·rename_i hw
    rw [if_pos hw] at h
    exact Oper.wp_in (fun c e => by rw [e] at hp; exact absurd (show false = true from hp.1) (by decide)) (fun a w => wpL_in os a w hp.2) h
   ·rename_i hw
    rw [if_neg hw] at h
    exact ⟨fun f _ => C.F_fn f, wpL_in os _ w hp.2 h⟩
theorem AWP.region {P : Program} {C : Ctx} {Q : Exit → St → Prop} {s : St} {id : Nat} {ops : Array Oper} (hN : regB C.N ops.toList = true)
  (e : evOps P C Q ops.toList [] s.t s.h s.n (fun t h n => Q .normal ⟨t, h, n⟩)) : AWP P C (.region id ops false) Q s := by
 simp only [regB, Bool.and_eq_true] at hN
 intro a w ι I
 exact wpIn_region_list (wpL_in _ _ _ hN.2 (evOps_ok (Q := PostQ C Q) (fun _ s' ι' _ _ he I' => .inl ⟨s', ι', he, I'⟩) hN.1 _ (fun _ _ _ ι' _ _ hk I' => .inl ⟨_, ι', hk, I'⟩)
  ops.toList [] s.t s.h s.n rfl rfl e a w ι I))
def frzC (h : Heap) (b : Nat) (c d : Cell) : Prop :=
 (c = d ∧ lowC b c = true) ∨ (∃ sz, c = .p (.v (.slice none 0 0)) ∧ d = .p (.sl sz [])) ∨
 (∃ id ver off len cap sz es blk, c = .win id ver off len cap ∧ d = .p (.sl sz es) ∧ b ≤ id ∧ h id = some blk ∧ blk.ver = ver ∧ es.length = len ∧
  (∀ e ∈ es, e.length = sz) ∧ (∀ (i : Nat) (e : List PD), es[i]? = some e → ∀ (j : Nat) (x : PD), e[j]? = some x → blk.cells[off + (i * sz + j)]? = some (.p x)))
inductive frzV (h : Heap) (b : Nat) : AV → AV → Prop
 | one {c d : Cell} (hc : frzC h b c d) : frzV h b (.one c) (.one d)
 | agg {cs ds : List Cell} (hl : ds.length = cs.length) (hc : ∀ (i : Nat) (c d : Cell), cs[i]? = some c → ds[i]? = some d → frzC h b c d) : frzV h b (.agg cs) (.agg ds)
 | tup {cs ds : List AV} (hl : ds.length = cs.length) (hc : ∀ (i : Nat) (c d : AV), cs[i]? = some c → ds[i]? = some d → frzV h b c d) : frzV h b (.tup cs) (.tup ds)
def lowH (b : Nat) (h : Heap) : Heap := fun i => if i < b then h i else none
theorem lowH_some {b : Nat} {h : Heap} {i : Nat} {blk : Blk} (e : lowH b h i = some blk) : i < b ∧ h i = some blk := by
 unfold lowH at e
 split at e
 ·exact ⟨by assumption, e⟩
 ·cases e
theorem RCell.low {ι : Nat → Nat} {h : Heap} {bd : Nat} {w : World} {b : Nat} {c : Cell} {v : Value} (r : RCell ι h bd w c v) (hl : lowC b c = true) : RCell ι (lowH b h) b w c v := by
 have hst : ∀ x, stab ι h x → stab ι (lowH b h) x := fun x s id blk e ne => s id blk (lowH_some e).2 ne
 induction r with
 | p hd => exact .p (hd.mono (fun x s _ => hst x s) (fun _ _ _ => rfl))
 | junk v => exact .junk v
 | @ptr id ver off v hid hver hv =>
   simp only [lowC, decide_eq_true_eq] at hl
   exact .ptr hl (fun blk e => hver blk (lowH_some e).2) (fun blk e => hv blk (lowH_some e).2)
 | @ro cs A U hs hc =>
   refine .ro A U hs (fun j d hd => ?_)
   obtain ⟨h1, h2, h3⟩ := hc j d hd
   exact ⟨hst _ h1, h2, h3.mono (fun x s _ => hst x s) (fun _ _ _ => rfl)⟩
 | @win id ver off len cap v hid hver hv =>
   simp only [lowC, decide_eq_true_eq] at hl
   exact .win hl (fun blk e => hver blk (lowH_some e).2) (fun blk e => hv blk (lowH_some e).2)
 | clo F C' hF hC h1 h2 ih1 ih2 =>
   simp only [lowC, Bool.and_eq_true] at hl
   exact .clo F C' hF hC (fun i c u hc hu => ih1 i c u hc hu (lowCs_mem hl.1 c (List.mem_of_getElem? hc))) (fun i c u hc hu => ih2 i c u hc hu (lowCs_mem hl.2 c (List.mem_of_getElem? hc)))
theorem frzC_ok {ι : Nat → Nat} {h : Heap} {bd : Nat} {w : World} {b : Nat} {c d : Cell} {v : Value} (H : HeapOK ι h bd w) (r : RCell ι h bd w c v) (f : frzC h b c d) : RCell ι (lowH b h) b w d v := by
 rcases f with ⟨rfl, hl⟩ | ⟨sz, rfl, rfl⟩ | ⟨id, ver, off, len, cap, sz, es, blk, rfl, rfl, hb, hblk, hver, hlen, hsz, hcells⟩
 ·exact r.low hl
 ·cases r with
  | p hd => cases hd with
    | v =>
      have := RPD.sl (S := stab ι (lowH b h)) (w := w) (sz := sz) (es := []) none 0 (fun _ _ => undef) (Nat.le_refl _) (fun _ => rfl) (fun _ e => by cases e) (fun _ e => by cases e) (fun _ _ e => by simp at e) (fun _ _ e => by simp at e)
      exact .p this
 ·cases r with
  | win hid hver' hv =>
    obtain ⟨hlc, hX⟩ := hv blk hblk hver
    have hst : ∀ x, stab ι h x → stab ι (lowH b h) x := fun x s id blk e ne => s id blk (lowH_some e).2 ne
    rcases hX with rfl | ⟨rfl, rfl, rfl⟩
    ·by_cases hne : blk.cells = []
     ·have := RPD.sl (S := stab ι (lowH b h)) (w := w) (sz := sz) (es := es) (some ⟨ι id, off, none⟩) cap (fun _ _ => undef) (by omega) (fun hn => by cases hn) (fun A hA => by injection hA with hA; subst hA; exact .inr rfl) hsz
       (fun i e he j x hx => by have := hcells i e he j x hx; rw [hne] at this; simp at this) (fun i e he j x hx => by have := hcells i e he j x hx; rw [hne] at this; simp at this)
      rw [hlen] at this
      exact .p this
     ·obtain ⟨c, ty, g1, g2, g3⟩ := H.blk id blk hblk hne
      have hself : stab ι (lowH b h) (ι id) := by
       intro id' blk' e ne heq
       obtain ⟨hlt, e'⟩ := lowH_some e
       have := H.inj id' id blk' blk e' hblk ne hne heq
       omega
      have := RPD.sl (S := stab ι (lowH b h)) (w := w) (sz := sz) (es := es) (some ⟨ι id, off, none⟩) cap (fun i j => c.getD (off + (i * sz + j)) undef) (by omega) (fun hn => by cases hn) (fun A hA => by injection hA with hA; subst hA; exact .inr rfl) hsz
       (fun i e he j x hx => by
        have hx' := hcells i e he j x hx
        have hlt : off + (i * sz + j) < c.size := by rw [g2]; exact (List.getElem?_eq_some_iff.1 hx').1
        refine ⟨_, rfl, hself, ?_⟩
        simp [World.cell?, g1, Array.getD, hlt])
       (fun i e he j x hx => by
        have hx' := hcells i e he j x hx
        have hlt : off + (i * sz + j) < c.size := by rw [g2]; exact (List.getElem?_eq_some_iff.1 hx').1
        have hr := g3 _ _ _ hx' (Array.getElem?_eq_getElem hlt)
        cases hr with
        | p hd =>
          have e1 : c.getD (off + (i * sz + j)) undef = c[off + (i * sz + j)] := by simp [Array.getD, hlt]
          rw [e1]
          exact hd.mono (fun x s _ => hst x s) (fun _ _ _ => rfl))
      rw [hlen] at this
      exact .p this
    ·have hes : es = [] := List.eq_nil_of_length_eq_zero hlen
     subst hes
     have := RPD.sl (S := stab ι (lowH b h)) (w := w) (sz := sz) (es := []) none 0 (fun _ _ => undef) (Nat.le_refl _) (fun _ => rfl) (fun _ e => by cases e) (fun _ e => by cases e) (fun _ _ e => by simp at e) (fun _ _ e => by simp at e)
     exact .p this
theorem frzV_ok {ι : Nat → Nat} {h : Heap} {bd : Nat} {w : World} {b : Nat} {c d : AV} {v : Value} (H : HeapOK ι h bd w) (f : frzV h b c d) (r : RAV ι h bd w c v) : RAV ι (lowH b h) b w d v := by
 induction f generalizing v with
 | one hc => cases r with | one hr => exact .one (frzC_ok H hr hc)
 | @agg cs ds hl hc =>
   cases r with
   | agg V hV hv =>
     refine .agg V (hV.trans hl.symm) (fun i d u hd hu => ?_)
     have hlt : i < cs.length := by rw [← hl]; exact (List.getElem?_eq_some_iff.1 hd).1
     exact frzC_ok H (hv i _ u (List.getElem?_eq_getElem hlt) hu) (hc i _ d (List.getElem?_eq_getElem hlt) hd)
 | @tup cs ds hl hc ih =>
   cases r with
   | tup V hV hv =>
     refine .tup V (hV.trans hl.symm) (fun i d u hd hu => ?_)
     have hlt : i < cs.length := by rw [← hl]; exact (List.getElem?_eq_some_iff.1 hd).1
     exact ih i _ d (List.getElem?_eq_getElem hlt) hd (hv i _ u (List.getElem?_eq_getElem hlt) hu)
theorem HeapOK.low {ι : Nat → Nat} {h : Heap} {bd : Nat} {w : World} {b : Nat} (H : HeapOK ι h bd w) (hl : ∀ id, id < b → ∀ blk, h id = some blk → ∀ c ∈ blk.cells, lowC b c = true) : HeapOK ι (lowH b h) b w := by
 refine ⟨fun id blk e ne => ?_, fun i j bi bj hi hj => H.inj i j bi bj (lowH_some hi).2 (lowH_some hj).2⟩
 obtain ⟨hlt, e'⟩ := lowH_some e
 obtain ⟨c, ty, h1, h2, h3⟩ := H.blk id blk e' ne
 exact ⟨c, ty, h1, h2, fun j d u hd hu => (h3 j d u hd hu).low (hl id hlt blk e' d (List.mem_of_getElem? hd))⟩
theorem RCell.lowOf {ι : Nat → Nat} {h : Heap} {bd : Nat} {w : World} {c : Cell} {v : Value} (r : RCell ι h bd w c v) : lowC bd c = true := by
 induction r with
 | p | junk | ro => rfl
 | ptr hid | win hid => simp only [lowC, decide_eq_true_eq]; exact hid
 | clo F C hF hC h1 h2 ih1 ih2 =>
   simp only [lowC, Bool.and_eq_true]
   refine ⟨lowCs_of fun c hc => ?_, lowCs_of fun c hc => ?_⟩
   ·obtain ⟨i, hi⟩ := List.mem_iff_getElem?.1 hc
    have hlt : i < F.length := by rw [hF]; exact (List.getElem?_eq_some_iff.1 hi).1
    exact ih1 i c _ hi (List.getElem?_eq_getElem hlt)
   ·obtain ⟨i, hi⟩ := List.mem_iff_getElem?.1 hc
    have hlt : i < C.length := by rw [hC]; exact (List.getElem?_eq_some_iff.1 hi).1
    exact ih2 i c _ hi (List.getElem?_eq_getElem hlt)
theorem HeapOK.lowCells {ι : Nat → Nat} {h : Heap} {b : Nat} {w : World} (H : HeapOK ι h b w) : ∀ id blk, h id = some blk → ∀ c ∈ blk.cells, lowC b c = true := by
 intro id blk e c hc
 have ne : blk.cells ≠ [] := by intro hh; rw [hh] at hc; cases hc
 obtain ⟨V, ty, h1, h2, h3⟩ := H.blk id blk e ne
 obtain ⟨i, hi⟩ := List.mem_iff_getElem?.1 hc
 have hlt : i < V.size := by rw [h2]; exact (List.getElem?_eq_some_iff.1 hi).1
 exact (h3 i c _ hi (Array.getElem?_eq_getElem hlt)).lowOf
def resV (P : Program) (h : Heap) (t : Nat → AV) : ResultVar → Option AV
 | .tmp i => some (t i)
 | .cell a ty => ldA P ty h (t a)
def resL (P : Program) (h : Heap) (t : Nat → AV) : List ResultVar → Option (List AV)
 | [] => some []
 | r :: rs => match resV P h t r with
   | some v => match resL P h t rs with
     | some vs => some (v :: vs)
     | none => none
   | none => none
def resA (P : Program) (h : Heap) (t : Nat → AV) (rs : List ResultVar) : Option AV :=
 match resL P h t rs with
 | some [v] => some v
 | some vs => some (.tup vs)
 | none => none
theorem ld_addr {P : Program} {ι : Nat → Nat} {h : Heap} {bd : Nat} {w : World} (H : HeapOK ι h bd w) {t : TypeId} {x av : AV} {X : Value} (r : RAV ι h bd w x X) (e : ldA P t h x = some av) :
  ∃ v, (do loadVar t (← asAddr X) : Sem Value).run P w = .ok v w ∧ RAV ι h bd w av v := by
 obtain ⟨v, h1, h2⟩ := ld_ok (P := P) H r e
 refine ⟨v, ?_, h2⟩
 have : ∃ A, X = .pointer (some A) := by
  unfold ldA at e
  split at e
  ·rename_i id ver off
   split at e
   ·rename_i b hb
    split at e
    ·rename_i hv; exact ⟨_, ptr_inv r hb hv⟩
    ·cases e
   ·cases e
  ·obtain ⟨A, U, hX, _⟩ := ro_inv r; exact ⟨A, hX⟩
  ·cases e
 obtain ⟨A, rfl⟩ := this
 simpa [Instr.loadAt, Instr.sureAddr, asAddr] using h1
def resFn (tmps : Array Value) : ResultVar → Sem Value
 | .tmp t => pure (tmps.getD t undef)
 | .cell x t => do loadVar t (← asAddr (tmps.getD x undef))
theorem results_eq (fn : Func) (tmps : Array Value) : results fn tmps = (do let vs ← fn.results.mapM (resFn tmps); pure (if h : vs.size = 1 then vs[0] else .tuple vs)) := by
 have e : resFn tmps = (fun r => match r with | .tmp t => pure (tmps.getD t undef) | .cell x t => do loadVar t (← asAddr (tmps.getD x undef))) := by
  funext r
  cases r <;> rfl
 rw [e]
 rfl
theorem resL_ok {P : Program} {C : Ctx} {ι : Nat → Nat} {s : St} {a : Act} {w : World} (I : Inv C ι s a w) : ∀ (rs : List ResultVar) (vs : List AV), resL P s.h s.t rs = some vs →
  ∃ V : List Value, (rs.mapM (resFn a.tmps)).run P w = .ok V w ∧ RAVs ι s.h (C.b + s.n) w vs V
 | [], vs, e => by injection e with e; subst e; exact ⟨[], rfl, rfl, fun _ _ _ hh => by simp at hh⟩
 | r :: rs, vs, e => by
   unfold resL at e
   split at e
   ·rename_i v hv
    split at e
    ·rename_i vs' hvs
     injection e with e
     subst e
     obtain ⟨V, h1, h2⟩ := resL_ok I rs vs' hvs
     have hone : ∃ u, (resFn a.tmps r).run P w = .ok u w ∧ RAV ι s.h (C.b + s.n) w v u := by
      cases r with
      | tmp i => injection hv with hv; subst hv; exact ⟨_, rfl, I.tmps i⟩
      | cell x ty => exact ld_addr I.heap (I.tmps x) hv
     obtain ⟨u, g1, g2⟩ := hone
     refine ⟨u :: V, ?_, ⟨by simp [h2.1], fun i c u' hc hu => ?_⟩⟩
     ·rw [List.mapM_cons]
      simp only [Sem.run_bind, g1, Result.andThen, h1, Sem.run_pure]
     ·cases i with
      | zero => simp at hc hu; subst hc; subst hu; exact g2
      | succ i => exact h2.2 i c u' (by simpa using hc) (by simpa using hu)
    ·cases e
   ·cases e
theorem res_ok {P : Program} {C : Ctx} {ι : Nat → Nat} {s : St} {a : Act} {w : World} (I : Inv C ι s a w) {fn : Func} {av : AV} (e : resA P s.h s.t fn.results.toList = some av) :
  ∃ v, (results fn a.tmps).run P w = .ok v w ∧ RAV ι s.h (C.b + s.n) w av v := by
 unfold resA at e
 have main : ∀ vs, resL P s.h s.t fn.results.toList = some vs → ∃ V : List Value, (results fn a.tmps).run P w = .ok (if h : V.toArray.size = 1 then V.toArray[0] else .tuple V.toArray) w ∧ RAVs ι s.h (C.b + s.n) w vs V := by
  intro vs hvs
  obtain ⟨V, h1, h2⟩ := resL_ok I _ vs hvs
  refine ⟨V, ?_, h2⟩
  rw [results_eq, Array.mapM_eq_mapM_toList]
  simp only [Sem.run_bind, Sem.run_map, Result.andThen]
  rw [h1]
  rfl
 split at e
 ·rename_i v hv
  injection e with e
  subst e
  obtain ⟨V, h1, h2⟩ := main _ hv
  obtain ⟨hl, hr⟩ := h2
  match V, hl with
  | [u], _ => exact ⟨u, h1, hr 0 _ u rfl rfl⟩
 ·rename_i vs hne hv
  injection e with e
  subst e
  obtain ⟨V, h1, h2⟩ := main _ hv
  refine ⟨.tuple V.toArray, ?_, .tup V h2.1 h2.2⟩
  rw [h1]
  have : ¬ V.toArray.size = 1 := by
   intro h
   have hl := h2.1
   have : vs.length = 1 := by rw [← hl]; simpa using h
   match vs, this with
   | [x], _ => exact hne x rfl
  rw [dif_neg this]
 ·cases e
theorem Ends.low {P : Program} {C : Ctx} {fn : Func} {R : AV → Heap → Prop} {s : St} {r0 r : AV} (hr : resA P s.h s.t fn.results.toList = some r0) (hf : frzV s.h C.b r0 r)
  (hl : ∀ id, id < C.b → ∀ blk, s.h id = some blk → ∀ c ∈ blk.cells, lowC C.b c = true) (hR : R r (lowH C.b s.h)) : Ends P C fn 0 R s := by
 intro a w ι I
 obtain ⟨v, h1, h2⟩ := res_ok (P := P) I hr
 refine ⟨v, r, lowH C.b s.h, ι, h1, hR, ⟨fun id hid b' e => I.outer id hid b' (lowH_some e).2, fun id hid b' e => ?_, fun id hid => ?_, I.heap.low hl, I.keeps⟩, frzV_ok I.heap hf h2⟩
 ·have := (lowH_some e).1; omega
 ·unfold lowH; rw [if_neg (by omega)]
theorem lowH_eq {b : Nat} {h h0 : Heap} (e : ∀ id, id < b → h id = h0 id) (n : ∀ id, b ≤ id → h0 id = none) : lowH b h = h0 := by
 funext id
 unfold lowH
 split
 ·exact e id (by assumption)
 ·rw [n id (by omega)]
theorem Ends.pure {P : Program} {C : Ctx} {fn : Func} {R : AV → Heap → Prop} {s : St} {r0 r : AV} (hn : ∀ id, C.b ≤ id → C.h id = none) (H : HeapOK C.ι C.h C.b C.w) (he : ∀ id, id < C.b → s.h id = C.h id)
  (hr : resA P s.h s.t fn.results.toList = some r0) (hf : frzV s.h C.b r0 r) (hR : R r C.h) : Ends P C fn 0 R s :=
 .low hr hf (fun id hid blk e => H.lowCells id blk (by rw [← he id hid]; exact e)) (by rw [lowH_eq he hn]; exact hR)
theorem lowEq_upd {b : Nat} {h h0 : Heap} {j : Nat} {x : Blk} (hj : b ≤ j) (e : ∀ id, id < b → h id = h0 id) : ∀ id, id < b → upd h j x id = h0 id :=
 fun id hid => by rw [upd_ne _ _ _ _ (by omega)]; exact e id hid
theorem frzV.v {h : Heap} {b : Nat} (x : Value) : frzV h b (.one (.p (.v x))) (.one (.p (.v x))) := .one (.inl ⟨rfl, rfl⟩)
theorem frzV.p {h : Heap} {b : Nat} (d : PD) : frzV h b (.one (.p d)) (.one (.p d)) := .one (.inl ⟨rfl, rfl⟩)
set_option linter.unusedSimpArgs false
set_option linter.unusedVariables false
set_option linter.unnecessarySimpa false
open Go
theorem updT_lit (t : Nat → AV) (d i : Nat) (v : AV) : updT t d v i = if i = d then v else t i := rfl
theorem putT_some (t : Nat → AV) (d : Nat) (v : AV) : putT t (some d) v = updT t d v := rfl
theorem putT_none (t : Nat → AV) (v : AV) : putT t none v = t := rfl
theorem upd_lit (h : Heap) (d i : Nat) (v : Blk) : upd h d v i = if i = d then some v else h i := rfl
theorem argsT_zero (x : AV) (xs : List AV) : argsT (x :: xs) 0 = x := rfl
theorem argsT_succ (x : AV) (xs : List AV) (n : Nat) : argsT (x :: xs) (n + 1) = argsT xs n := rfl
section
variable (P : Program) (C : Ctx) (E : Exit → St → Prop)
abbrev FinT := (Nat → AV) → Heap → Nat → Prop
abbrev bare (op : Op) : Oper := ⟨none, op, 0, "", #[], none⟩
def kV (x : Option AV) (dst : Option Tmp) (os : List Oper) (pre : List (Option Tmp)) (t : Nat → AV) (h : Heap) (n : Nat) (K : FinT) : Prop :=
 optK x fun v => evOps P C E os (pre ++ [dst]) (putT t dst v) h n K
def kS (x : AV) (dst : Option Tmp) (os : List Oper) (pre : List (Option Tmp)) (t : Nat → AV) (h : Heap) (n : Nat) (K : FinT) : Prop :=
 splitB x fun v => evOps P C E os (pre ++ [dst]) (putT t dst v) h n K
def kE (x : Option AV) (op : BinOp) (ty : TypeId) (ox oy : Operand) (a b : AV) (dst : Option Tmp) (os : List Oper) (pre : List (Option Tmp)) (t : Nat → AV) (h : Heap) (n : Nat) (K : FinT) : Prop :=
 match x with
 | some v => evOps P C E os (pre ++ [dst]) (putT t dst v) h n K
 | none => EqlK P C op ty ox oy a b h n fun v h' n' => evOps P C E os (pre ++ [dst]) (putT t dst v) h' n' K
def EqlR (op : BinOp) (ty : TypeId) (ox oy : Operand) (a b : AV) (dst : Option Tmp) (os : List Oper) (pre : List (Option Tmp)) (t : Nat → AV) (h : Heap) (n : Nat) (K : FinT) : Prop :=
 EqlK P C op ty ox oy a b h n fun v h' n' => evOps P C E os (pre ++ [dst]) (putT t dst v) h' n' K
def kL (x : Option (List Cell)) (v : AV) (dst : Option Tmp) (os : List Oper) (pre : List (Option Tmp)) (t : Nat → AV) (h : Heap) (n : Nat) (K : FinT) : Prop :=
 match x with
 | some cs => evOps P C E os (pre ++ [dst]) (putT t dst v) (upd h (C.b + n) ⟨0, cs⟩) (n + 1) K
 | none => False
def kH (x : Option Heap) (dst : Option Tmp) (os : List Oper) (pre : List (Option Tmp)) (t : Nat → AV) (n : Nat) (K : FinT) : Prop :=
 match x with
 | some h => evOps P C E os (pre ++ [dst]) (putT t dst (.one .junk)) h n K
 | none => False
def CallR (g : FuncId) (args : List AV) (dst : Option Tmp) (os : List Oper) (pre : List (Option Tmp)) (t : Nat → AV) (h : Heap) (n : Nat) (K : FinT) : Prop :=
 CallK P C E t g args h n fun v h' n' => evOps P C E os (pre ++ [dst]) (putT t dst v) h' n' K
def kPn (x : AV) (t : Nat → AV) (h : Heap) (n : Nat) : Prop :=
 match x with
 | .one (.p (.v (.iface T v))) => E (.panic [{ v := .iface T v, recovered := false }]) ⟨t, h, n⟩
 | _ => False
def kC (f : AV) (args : List AV) (dst : Option Tmp) (os : List Oper) (pre : List (Option Tmp)) (t : Nat → AV) (h : Heap) (n : Nat) (K : FinT) : Prop :=
 match f with
 | .one (.clo (.func g) first cap) => CallR P C E g (first.map .one ++ (args ++ cap.map .one)) dst os pre t h n K
 | _ => False
def BiR (b : Builtin) (tys : List TypeId) (args : List AV) (dst : Option Tmp) (os : List Oper) (pre : List (Option Tmp)) (t : Nat → AV) (h : Heap) (n : Nat) (K : FinT) : Prop :=
 BiK P C b tys args h n fun v h' n' => evOps P C E os (pre ++ [dst]) (putT t dst v) h' n' K
def MkR (ty : TypeId) (x y : AV) (dst : Option Tmp) (os : List Oper) (pre : List (Option Tmp)) (t : Nat → AV) (h : Heap) (n : Nat) (K : FinT) : Prop :=
 MkK P C ty x y h n fun v h' n' => evOps P C E os (pre ++ [dst]) (putT t dst v) h' n' K
def step (op : Op) (dst : Option Tmp) (os : List Oper) (pre : List (Option Tmp)) (t : Nat → AV) (h : Heap) (n : Nat) (K : FinT) : Prop :=
 aop P C (bare op) t h n E fun v h' n' => evOps P C E os (pre ++ [dst]) (putT t dst v) h' n' K
def kG (x : AV) (want : Bool) (op : Op) (dst : Option Tmp) (os : List Oper) (pre : List (Option Tmp)) (t : Nat → AV) (h : Heap) (n : Nat) (K : FinT) : Prop :=
 match x with
 | .one (.p (.v (.bool g))) => (g = want → step P C E op dst os pre t h n K) ∧ (g = !want → evOps P C E os (pre ++ [dst]) (putT t dst undA) h n K)
 | .one (.p (.v (.tuple _))) => evOps P C E os (pre ++ [dst]) (putT t dst undA) h n K
 | _ => False
def kGd (g : Option (Option Tmp)) (want : Bool) (op : Op) (dst : Option Tmp) (os : List Oper) (pre : List (Option Tmp)) (t : Nat → AV) (h : Heap) (n : Nat) (K : FinT) : Prop :=
 match g with
 | some (some d) => kG P C E (t d) want op dst os pre t h n K
 | _ => False
variable (dst : Option Tmp) (ty : TypeId) (pos : String) (after : Array Edge) (os : List Oper) (pre : List (Option Tmp)) (t : Nat → AV) (h : Heap) (n : Nat) (K : FinT)
theorem evOps_nil : evOps P C E [] pre t h n K = K t h n := rfl
theorem aop_bare (op : Op) (g : Option (Nat × Bool)) (K : KT) : aop P C ⟨dst, op, ty, pos, after, g⟩ t h n E K = aop P C (bare op) t h n E K := by
 unfold aop
 cases op <;> rfl
theorem evOps_plain (op : Op) : evOps P C E (⟨dst, op, ty, pos, after, none⟩ :: os) pre t h n K = step P C E op dst os pre t h n K := by
 rw [evOps]
 exact aop_bare P C E dst ty pos after t h n op none _
theorem evOps_guard (op : Op) (j : Nat) (want : Bool) : evOps P C E (⟨dst, op, ty, pos, after, some (j, want)⟩ :: os) pre t h n K = kGd P C E pre[j]? want op dst os pre t h n K := by
 rw [evOps]
 simp only [aop_bare]
 unfold kGd kG step
 rfl
theorem step_move (x : Operand) : step P C E (.move x) dst os pre t h n K = kS P C E (val t x) dst os pre t h n K := rfl
theorem step_assign (x : Operand) : step P C E (.assign x) dst os pre t h n K = evOps P C E os (pre ++ [dst]) (putT t dst (val t x)) h n K := rfl
def pickV (c a b : AV) : Option AV :=
 match c with
 | .one (.p (.v (.bool g))) => some (bif g then a else b)
 | _ => none
theorem step_pick (c a b : Operand) : step P C E (.pick c a b) dst os pre t h n K = kV P C E (pickV (val t c) (val t a) (val t b)) dst os pre t h n K := rfl
theorem step_load (x : Operand) : step P C E (.load ty x) dst os pre t h n K = kV P C E (ldA P ty h (val t x)) dst os pre t h n K := rfl
theorem step_fieldAddr (x : Operand) (f : Nat) : step P C E (.fieldAddr ty x f) dst os pre t h n K = kV P C E (fldA P ty h (val t x) f) dst os pre t h n K := rfl
theorem step_field (x : Operand) (f : Nat) : step P C E (.field ty x f) dst os pre t h n K = kV P C E (fieldA P ty (val t x) f) dst os pre t h n K := rfl
theorem step_indexAddr (x i : Operand) : step P C E (.indexAddr ty x i) dst os pre t h n K = kV P C E (idxA P ty h (val t x) (val t i)) dst os pre t h n K := rfl
theorem step_index (x i : Operand) : step P C E (.index ty x i) dst os pre t h n K = kV P C E (idxV P ty (val t x) (val t i)) dst os pre t h n K := rfl
theorem step_unOp (op : UnOp) (x : Operand) : step P C E (.unOp op ty x) dst os pre t h n K = kV P C E (unA op (val t x)) dst os pre t h n K := rfl
theorem step_convert (s d : TypeId) (x : Operand) : step P C E (.convert s d x) dst os pre t h n K = kV P C E (convA P h s d (val t x)) dst os pre t h n K := rfl
theorem step_slice (x : Operand) (lo hi mx : Option Operand) : step P C E (.slice ty x lo hi mx) dst os pre t h n K = kV P C E (slcA P ty h (val t x) (lo.map (val t)) (hi.map (val t)) (mx.map (val t))) dst os pre t h n K := rfl
theorem step_extract (x : Operand) (i : Nat) : step P C E (.extract x i) dst os pre t h n K = kV P C E (exA (val t x) i) dst os pre t h n K := rfl
theorem step_nilCheck (x : Operand) : step P C E (.nilCheck x) dst os pre t h n K = kV P C E (nilV h (val t x)) dst os pre t h n K := rfl
theorem valP_mk (t : Nat → AV) (i : Nat) (x : Operand) : valP t (i, x) = (i, val t x) := rfl
theorem step_build (parts : Array (Nat × Operand)) : step P C E (.build ty parts) dst os pre t h n K = kV P C E (bldA P h ty (parts.toList.map (valP t))) dst os pre t h n K := rfl
def cloV (fn : Fn) (a b : Option (List Cell)) : Option AV :=
 match a, b with
 | some a, some b => some (.one (.clo fn a b))
 | _, _ => none
theorem step_makeFunc (fn : Fn) (first cap : Array Operand) : step P C E (.makeFunc fn first cap) dst os pre t h n K = kV P C E (cloV fn (cellOnes (first.toList.map (val t))) (cellOnes (cap.toList.map (val t)))) dst os pre t h n K := rfl
theorem step_binOp (op : BinOp) (u : TypeId) (x y : Operand) : step P C E (.binOp op ty x y u) dst os pre t h n K = kE P C E (binA P h ty op (val t x) (val t y)) op ty x y (val t x) (val t y) dst os pre t h n K := rfl
theorem step_box (x : Operand) : step P C E (.box ty x) dst os pre t h n K = (okA h (val t x) = true ∧ evOps P C E os (pre ++ [dst]) (putT t dst (.one (.ptr (C.b + n) 0 0))) (upd h (C.b + n) ⟨0, cellsA (val t x)⟩) (n + 1) K) := rfl
def zeroC (P : Program) (ty : TypeId) : Option (List Cell) := (tzero P ty).map fun zs => zs.map fun v => .p (.v v)
theorem step_alloc : step P C E (.alloc ty) dst os pre t h n K = kL P C E (zeroC P ty) (.one (.ptr (C.b + n) 0 0)) dst os pre t h n K := by
 unfold step aop kL zeroC
 simp only
 cases tzero P ty <;> rfl
theorem step_buildSlice (len : Nat) (parts : Array (Nat × Operand)) : step P C E (.buildSlice ty len parts) dst os pre t h n K = kL P C E (bslA P h ty len (parts.toList.map (valP t))) (.one (.win (C.b + n) 0 0 len len)) dst os pre t h n K := by
 unfold step aop kL
 simp only
 show (match bslA P h ty len (parts.toList.map (valP t)) with | some cs => _ | none => _) = _
 cases bslA P h ty len (parts.toList.map (valP t)) <;> rfl
theorem step_store (x v : Operand) : step P C E (.store ty x v) dst os pre t h n K = kH P C E (stA P ty h (val t x) (val t v)) dst os pre t n K := by
 unfold step aop kH
 simp only
 all_goals (cases stA P ty h (val t x) (val t v) <;> rfl)
theorem step_makeSlice (l c : Operand) : step P C E (.makeSlice ty l c) dst os pre t h n K = MkR P C E ty (val t l) (val t c) dst os pre t h n K := rfl
theorem step_call (f : Operand) (xs : Array Operand) (tys : Array TypeId) : step P C E (.call ⟨.value f, xs, tys⟩) dst os pre t h n K = kC P C E (val t f) (xs.toList.map (val t)) dst os pre t h n K := rfl
theorem step_append (xs : Array Operand) (tys : Array TypeId) : step P C E (.call ⟨.builtin .append, xs, tys⟩) dst os pre t h n K = BiR P C E .append tys.toList (xs.toList.map (val t)) dst os pre t h n K := rfl
theorem step_copy (xs : Array Operand) (tys : Array TypeId) : step P C E (.call ⟨.builtin .copy, xs, tys⟩) dst os pre t h n K = BiR P C E .copy tys.toList (xs.toList.map (val t)) dst os pre t h n K := rfl
theorem step_clear (xs : Array Operand) (tys : Array TypeId) : step P C E (.call ⟨.builtin .clear, xs, tys⟩) dst os pre t h n K = BiR P C E .clear tys.toList (xs.toList.map (val t)) dst os pre t h n K := rfl
theorem step_len (x : Operand) : step P C E (.call ⟨.builtin .len, #[x], #[ty]⟩) dst os pre t h n K = kV P C E (lenA P ty h (val t x)) dst os pre t h n K := rfl
theorem step_cap (x : Operand) : step P C E (.call ⟨.builtin .cap, #[x], #[ty]⟩) dst os pre t h n K = kV P C E (capA P ty h (val t x)) dst os pre t h n K := rfl
theorem step_min (x y : Operand) (tys : Array TypeId) : step P C E (.call ⟨.builtin .min, #[x, y], tys⟩) dst os pre t h n K = kV P C E (mm2 false (val t x) (val t y)) dst os pre t h n K := rfl
theorem kV_some (v : AV) : kV P C E (some v) dst os pre t h n K = evOps P C E os (pre ++ [dst]) (putT t dst v) h n K := rfl
theorem kV_if (c : Prop) [Decidable c] (x : Option AV) : kV P C E (if c then x else none) dst os pre t h n K = (c ∧ kV P C E x dst os pre t h n K) := by
 unfold kV
 split <;> simp_all [optK]
theorem kE_some (v : AV) (op : BinOp) (ox oy : Operand) (a b : AV) : kE P C E (some v) op ty ox oy a b dst os pre t h n K = evOps P C E os (pre ++ [dst]) (putT t dst v) h n K := rfl
theorem kE_none (op : BinOp) (ox oy : Operand) (a b : AV) : kE P C E none op ty ox oy a b dst os pre t h n K = EqlR P C E op ty ox oy a b dst os pre t h n K := rfl
theorem kL_some (cs : List Cell) (v : AV) : kL P C E (some cs) v dst os pre t h n K = evOps P C E os (pre ++ [dst]) (putT t dst v) (upd h (C.b + n) ⟨0, cs⟩) (n + 1) K := rfl
theorem kL_if (c : Prop) [Decidable c] (x : Option (List Cell)) (v : AV) : kL P C E (if c then x else none) v dst os pre t h n K = (c ∧ kL P C E x v dst os pre t h n K) := by
 split <;> simp_all [kL]
theorem kH_some (h' : Heap) : kH P C E (some h') dst os pre t n K = evOps P C E os (pre ++ [dst]) (putT t dst (.one .junk)) h' n K := rfl
theorem kH_if (c : Prop) [Decidable c] (x : Option Heap) : kH P C E (if c then x else none) dst os pre t n K = (c ∧ kH P C E x dst os pre t n K) := by
 split <;> simp_all [kH]
theorem kC_clo (g : FuncId) (first cap : List Cell) (args : List AV) : kC P C E (.one (.clo (.func g) first cap)) args dst os pre t h n K = CallR P C E g (first.map .one ++ (args ++ cap.map .one)) dst os pre t h n K := rfl
theorem kGd_some (d : Tmp) (want : Bool) (op : Op) : kGd P C E (some (some d)) want op dst os pre t h n K = kG P C E (t d) want op dst os pre t h n K := rfl
theorem kG_tt (op : Op) : kG P C E (.one (.p (.v (.bool true)))) true op dst os pre t h n K = step P C E op dst os pre t h n K := by simp [kG]
theorem kG_tf (op : Op) : kG P C E (.one (.p (.v (.bool true)))) false op dst os pre t h n K = evOps P C E os (pre ++ [dst]) (putT t dst undA) h n K := by simp [kG]
theorem kG_ft (op : Op) : kG P C E (.one (.p (.v (.bool false)))) true op dst os pre t h n K = evOps P C E os (pre ++ [dst]) (putT t dst undA) h n K := by simp [kG]
theorem kG_und (want : Bool) (op : Op) : kG P C E undA want op dst os pre t h n K = evOps P C E os (pre ++ [dst]) (putT t dst undA) h n K := rfl
theorem kG_ff (op : Op) : kG P C E (.one (.p (.v (.bool false)))) false op dst os pre t h n K = step P C E op dst os pre t h n K := by simp [kG]
theorem kS_true : kS P C E (.one (.p (.v (.bool true)))) dst os pre t h n K = evOps P C E os (pre ++ [dst]) (putT t dst (.one (.p (.v (.bool true))))) h n K := by simp [kS, splitB]
theorem kS_false : kS P C E (.one (.p (.v (.bool false)))) dst os pre t h n K = evOps P C E os (pre ++ [dst]) (putT t dst (.one (.p (.v (.bool false))))) h n K := by simp [kS, splitB]
theorem kS_any (g : Bool) : kS P C E (.one (.p (.v (.bool g)))) dst os pre t h n K = ((g = true → evOps P C E os (pre ++ [dst]) (putT t dst (.one (.p (.v (.bool true))))) h n K) ∧
  (g = false → evOps P C E os (pre ++ [dst]) (putT t dst (.one (.p (.v (.bool false))))) h n K)) := rfl
theorem kS_int (k : IntKind) (i : Int) : kS P C E (.one (.p (.v (.int k i)))) dst os pre t h n K = evOps P C E os (pre ++ [dst]) (putT t dst (.one (.p (.v (.int k i))))) h n K := rfl
theorem kS_float (k : FloatKind) (i : Nat) : kS P C E (.one (.p (.v (.float k i)))) dst os pre t h n K = evOps P C E os (pre ++ [dst]) (putT t dst (.one (.p (.v (.float k i))))) h n K := rfl
theorem kS_string (s : ByteArray) : kS P C E (.one (.p (.v (.string s)))) dst os pre t h n K = evOps P C E os (pre ++ [dst]) (putT t dst (.one (.p (.v (.string s))))) h n K := rfl
theorem kS_sl (z : Nat) (es : List (List PD)) : kS P C E (.one (.p (.sl z es))) dst os pre t h n K = evOps P C E os (pre ++ [dst]) (putT t dst (.one (.p (.sl z es)))) h n K := rfl
theorem kS_ptr (a b c : Nat) : kS P C E (.one (.ptr a b c)) dst os pre t h n K = evOps P C E os (pre ++ [dst]) (putT t dst (.one (.ptr a b c))) h n K := rfl
theorem kS_win (a b c d e : Nat) : kS P C E (.one (.win a b c d e)) dst os pre t h n K = evOps P C E os (pre ++ [dst]) (putT t dst (.one (.win a b c d e))) h n K := rfl
theorem kS_clo (f : Fn) (a b : List Cell) : kS P C E (.one (.clo f a b)) dst os pre t h n K = evOps P C E os (pre ++ [dst]) (putT t dst (.one (.clo f a b))) h n K := rfl
theorem kS_tup (a : List AV) : kS P C E (.tup a) dst os pre t h n K = evOps P C E os (pre ++ [dst]) (putT t dst (.tup a)) h n K := rfl
theorem kV_congr {x x' : Option AV} (e : x = x') : kV P C E x dst os pre t h n K = kV P C E x' dst os pre t h n K := by rw [e]
theorem kS_congr {x x' : AV} (e : x = x') : kS P C E x dst os pre t h n K = kS P C E x' dst os pre t h n K := by rw [e]
theorem kH_congr {x x' : Option Heap} (e : x = x') : kH P C E x dst os pre t n K = kH P C E x' dst os pre t n K := by rw [e]
theorem kGd_congr {x x' : Option (Option Tmp)} (want : Bool) (op : Op) (e : x = x') : kGd P C E x want op dst os pre t h n K = kGd P C E x' want op dst os pre t h n K := by rw [e]
theorem kG_congr {x x' : AV} (want : Bool) (op : Op) (e : x = x') : kG P C E x want op dst os pre t h n K = kG P C E x' want op dst os pre t h n K := by rw [e]
theorem kE_congr {x x' : Option AV} {a a' b b' : AV} (op : BinOp) (ox oy : Operand) (e : x = x') (ea : a = a') (eb : b = b') : kE P C E x op ty ox oy a b dst os pre t h n K = kE P C E x' op ty ox oy a' b' dst os pre t h n K := by rw [e, ea, eb]
theorem kC_congr {f f' : AV} {args args' : List AV} (e : f = f') (e2 : args = args') : kC P C E f args dst os pre t h n K = kC P C E f' args' dst os pre t h n K := by rw [e, e2]
theorem CallR_congr (g : FuncId) {args args' : List AV} (e : args = args') : CallR P C E g args dst os pre t h n K = CallR P C E g args' dst os pre t h n K := by rw [e]
theorem BiR_congr (b : Builtin) (tys : List TypeId) {args args' : List AV} (e : args = args') : BiR P C E b tys args dst os pre t h n K = BiR P C E b tys args' dst os pre t h n K := by rw [e]
theorem MkR_congr {x x' y y' : AV} (e : x = x') (e2 : y = y') : MkR P C E ty x y dst os pre t h n K = MkR P C E ty x' y' dst os pre t h n K := by rw [e, e2]
end
theorem AWP.reg {P : Program} {C : Ctx} {Q : Exit → St → Prop} {s : St} {id : Nat} {ops : Array Oper} (hN : regB C.N ops.toList = true)
  (e : ∀ (E : Exit → St → Prop) (K : FinT), (∀ e s, Q e s → E e s) → (∀ t h n, Q .normal ⟨t, h, n⟩ → K t h n) → evOps P C E ops.toList [] s.t s.h s.n K) : AWP P C (.region id ops false) Q s :=
 .region hN (e Q _ (fun _ _ h => h) (fun _ _ _ h => h))
theorem AWP.seqReg {P : Program} {C : Ctx} {Q : Exit → St → Prop} {s : St} {id : Nat} {ops : Array Oper} {y : Code} (hN : regB C.N ops.toList = true)
  (e : ∀ (E : Exit → St → Prop) (K : FinT), (∀ e s, thn (AWP P C y Q) Q e s → E e s) → (∀ t h n, AWP P C y Q ⟨t, h, n⟩ → K t h n) → evOps P C E ops.toList [] s.t s.h s.n K) : AWP P C (.seq (.region id ops false) y) Q s :=
 .seq (.reg hN e)
theorem map_if {α β : Type} (c : Prop) [Decidable c] (x : Option α) (f : α → β) : Option.map f (if c then x else none) = if c then Option.map f x else none := by split <;> rfl
theorem bind_if {α β : Type} (c : Prop) [Decidable c] (x : Option α) (f : α → Option β) : Option.bind (if c then x else none) f = if c then Option.bind x f else none := by split <;> rfl
theorem map_some' {α β : Type} (f : α → β) (v : α) : Option.map f (some v) = some (f v) := rfl
theorem map_none' {α β : Type} (f : α → β) : Option.map f none = none := rfl
theorem bind_some' {α β : Type} (f : α → Option β) (v : α) : Option.bind (some v) f = f v := rfl
theorem thn_normal (K : St → Prop) (Q : Exit → St → Prop) (s : St) : thn K Q .normal s = K s := rfl
theorem thn_ret (K : St → Prop) (Q : Exit → St → Prop) (s : St) : thn K Q .ret s = Q .ret s := rfl
theorem thn_exit (K : St → Prop) (Q : Exit → St → Prop) (s : St) (id : Nat) : thn K Q (.exit id) s = Q (.exit id) s := rfl
theorem inBlk_normal (id : Nat) (Q : Exit → St → Prop) (s : St) : inBlk id Q .normal s = Q .normal s := rfl
theorem inBlk_ret (id : Nat) (Q : Exit → St → Prop) (s : St) : inBlk id Q .ret s = Q .ret s := rfl
theorem inBlk_exit (id id' : Nat) (Q : Exit → St → Prop) (s : St) : inBlk id Q (.exit id') s = if id' = id then Q .normal s else Q (.exit id') s := rfl
theorem bodyQ_normal (P : Program) (C : Ctx) (fn : Func) (m : Nat) (R : AV → Heap → Prop) (s : St) : bodyQ P C fn m R .normal s = Ends P C fn m R s := rfl
theorem bodyQ_ret (P : Program) (C : Ctx) (fn : Func) (m : Nat) (R : AV → Heap → Prop) (s : St) : bodyQ P C fn m R .ret s = Ends P C fn m R s := rfl
theorem liveB_eq (h : Heap) (id ver : Nat) : liveB h id ver = match h id with | some b => decide (b.ver = ver) | none => false := rfl
theorem bool_true_eq : (true = false) = False := by simp
theorem bool_false_eq : (false = true) = False := by simp
attribute [congr] kV_congr kS_congr kH_congr kGd_congr kG_congr kE_congr kC_congr CallR_congr BiR_congr MkR_congr
attribute [go_sem ↓] evOps_nil evOps_plain evOps_guard step_move step_assign step_pick step_load step_fieldAddr step_field step_indexAddr step_index step_unOp step_convert step_slice step_extract step_nilCheck step_build step_makeFunc step_binOp step_box step_alloc step_buildSlice step_store step_makeSlice step_call step_append step_copy step_clear step_len step_cap step_min updT_lit upd_lit val putT_some putT_none thn_normal thn_ret thn_exit inBlk_normal inBlk_ret inBlk_exit bodyQ_normal bodyQ_ret
attribute [go_sem] argsT_zero argsT_succ kV_some kV_if kE_some kE_none kL_some kL_if kH_some kH_if kC_clo kGd_some kG_und kG_tt kG_tf kG_ft kG_ff kS_true kS_false kS_int kS_float kS_string kS_sl kS_ptr kS_win kS_clo kS_tup map_if bind_if map_some' map_none' bind_some' valP_mk pickV zeroC nilV cloV ofV okA okC cellsA ldA partA fldA idxA idxV intB shiftB strB floatB isShift binV eqV eqFs eqAV eqR ptrB binA unV unA convA txtV mkIf tasA ofV kPn fieldA intOfA bnd1 bndMx bndHi bndLo bndA slcA lenA capA exA mm2 spl fillA bldA cellOnes bslA stA liveB_eq repl resV resL resA
attribute [go_sem low] kS_any
attribute [go_sem] if_true if_false Nat.add_zero Nat.zero_add true_and and_true Nat.add_left_cancel_iff Nat.add_eq_left Nat.left_eq_add List.getElem?_cons_zero List.getElem?_cons_succ List.getElem?_nil List.take_zero List.take_succ_cons List.drop_zero List.drop_succ_cons List.take_nil List.drop_nil List.nil_append List.cons_append List.length_cons List.length_nil List.map_cons List.map_nil List.length_map ite_self Nat.sub_zero Nat.zero_mul Nat.one_mul or_true true_or Nat.zero_le Option.isSome_some Option.isSome_none List.append_nil List.all_cons List.all_nil Bool.and_true Bool.true_and Value.oneCell' decide_true decide_false Bool.not_true Bool.not_false forall_const false_implies implies_true bool_true_eq bool_false_eq cond_true cond_false gt_iff_lt ge_iff_le eq_self
end Go.Proofs.YtihgnpboabpchaaGreatDoor.Am
